/- Own work: the zaO machine and what it shows, part ShF. -/
import Derived.Test.YtchjbidfmhmmhaaGreatDoorShG
import Derived.Laws.BitsLemmas
import Derived.Laws.Strings
import Derived.OpenShut
set_option linter.all false
namespace Go.Sh
def zyb (r:Option (GExit × St)) (k:St→Option (GExit × St)):Option (GExit × St) :=
 match r with
 | some (.normal,s)=>k s
 | r=>r
@[simp] theorem zAq (s:St) (k:St→Option (GExit × St)):zyb (some (.normal,s)) k=k s:=rfl
@[simp] theorem zEp (s:St) (k:St→Option (GExit × St)):zyb (some (.ret,s)) k=some (.ret,s):=rfl
@[simp] theorem zDl (i:Nat) (s:St) (k:St→Option (GExit × St)):zyb (some (.exit i,s)) k=some (.exit i,s):=rfl
@[simp] theorem zDm (k:St→Option (GExit × St)):zyb none k=none:=rfl
def zyc (v:GV) (x y:St→Option (GExit × St)) (s:St):Option (GExit × St) :=
 match v with
 | .bool b=>if b=true then x s else y s
 | _=>none
@[simp] theorem zBf (x y:St→Option (GExit × St)) (s:St):zyc (.bool true) x y s=x s:=rfl
@[simp] theorem zAr (x y:St→Option (GExit × St)) (s:St):zyc (.bool false) x y s=y s:=rfl
def ziZ (id:Nat) (r:Option (GExit × St)):Option (GExit × St) :=
 match r with
 | some (.exit id',s)=>if id'=id then some (.normal,s) else some (.exit id',s)
 | r=>r
@[simp] theorem zyd (id:Nat) (s:St):ziZ id (some (.normal,s))=some (.normal,s):=rfl
@[simp] theorem zBg (id:Nat) (s:St):ziZ id (some (.ret,s))=some (.ret,s):=rfl
@[simp] theorem zos (id i:Nat) (s:St):ziZ id (some (.exit i,s))=if i=id then some (.normal,s) else some (.exit i,s):=rfl
@[simp] theorem zAs (id:Nat):ziZ id none=none:=rfl
@[simp] theorem zAt (s:St) (k:St→Option (GV × GH)):zmS (some (.normal,s)) k=k s:=rfl
@[simp] theorem zEq (s:St) (k:St→Option (GV × GH)):zmS (some (.ret,s)) k=k s:=rfl
@[simp] theorem zDn (k:St→Option (GV × GH)):zmS none k=none:=rfl
def zGe (r:Option St):Option (GExit × St):=r.map fun s=>(.normal,s)
@[simp] theorem zDo (s:St):zGe (some s)=some (.normal,s):=rfl
@[simp] theorem zDp:zGe none=none:=rfl
section
variable {T:Nat→Option IFun}
theorem zAu (a b:ICode) (s:St):erun T (.seq a b) s=zyb (erun T a s) (erun T b):=by
 rw [zpA]
 unfold zyb
 split
 ·rename_i h; rw [h]
 ·rename_i h
  split
  ·rename_i h'; exact absurd h' (h _)
  ·rfl
theorem zye (c:Src) (a b:ICode) (l:List GV) (g:Nat) (H:GH):erun T (.cond c a b) ⟨⟨l,g⟩,H⟩=zyc (zaf ⟨l,g⟩ c) (erun T a) (erun T b) ⟨⟨l,g⟩,H⟩:=by
 rw [zvs]
 unfold zyc
 split
 ·rename_i h; simp [h]
 ·rename_i h; simp [h]
 ·rename_i h1 h2
  split
  ·rename_i b' h
   cases b'
   ·exact absurd h h2
   ·exact absurd h h1
  ·rfl
theorem zvu (id:Nat) (a:ICode) (s:St):erun T (.block id a) s=ziZ id (erun T a s):=by
 rw [zri]
 unfold ziZ
 rfl
theorem zam (a:ICode) (s:St):erun T (.loop a) s=zyb (erun T a s) (erun T (.loop a)):=by
 rw [zvt]
 unfold zyb
 split
 ·rename_i h; rw [h]
 ·rename_i h
  split
  ·rename_i h'; exact absurd h' (h _)
  ·rfl
theorem zrj (ops:List IOp) (s:St):erun T (.region ops) s=zGe (zbO (ecall T) ops s):=zfZ ops s
end
section
variable (call:Nat→List GV→GH→Option (GV × GH))
theorem zyf (s:St):zbO call [] s=some s:=rfl
def zgI (v:GV) (w:Bool) (x y:St→Option St) (d:Option Nat) (s:St):Option St :=
 match v with
 | .bool b=>if b=w then x s else y { s with e:=s.e.put d (.tup []) }
 | .tup []=>y { s with e:=s.e.put d (.tup []) }
 | _=>none
@[simp] theorem zDq (x y:St→Option St) (d:Option Nat) (s:St):zgI (.bool true) true x y d s=x s:=rfl
@[simp] theorem zDr (x y:St→Option St) (d:Option Nat) (s:St):zgI (.bool false) false x y d s=x s:=rfl
@[simp] theorem zDs (x y:St→Option St) (d:Nat) (l:List GV) (g:Nat) (H:GH):zgI (.bool true) false x y (some d) ⟨⟨l,g⟩,H⟩=y ⟨⟨lput l d (.tup []),g⟩,H⟩:=rfl
@[simp] theorem zDt (x y:St→Option St) (d:Nat) (l:List GV) (g:Nat) (H:GH):zgI (.bool false) true x y (some d) ⟨⟨l,g⟩,H⟩=y ⟨⟨lput l d (.tup []),g⟩,H⟩:=rfl
@[simp] theorem zDu (w:Bool) (x y:St→Option St) (d:Nat) (l:List GV) (g:Nat) (H:GH):zgI (.tup []) w x y (some d) ⟨⟨l,g⟩,H⟩=y ⟨⟨lput l d (.tup []),g⟩,H⟩:=rfl
@[simp] theorem zBh (w:Bool) (x y:St→Option St) (l:List GV) (g:Nat) (H:GH):zgI (.tup []) w x y none ⟨⟨l,g⟩,H⟩=y ⟨⟨l,g⟩,H⟩:=rfl
@[simp] theorem zBi (x y:St→Option St) (l:List GV) (g:Nat) (H:GH):zgI (.bool true) false x y none ⟨⟨l,g⟩,H⟩=y ⟨⟨l,g⟩,H⟩:=rfl
@[simp] theorem zBj (x y:St→Option St) (l:List GV) (g:Nat) (H:GH):zgI (.bool false) true x y none ⟨⟨l,g⟩,H⟩=y ⟨⟨l,g⟩,H⟩:=rfl
def akK (b:Bool) (x:St→Option St) (s:St):Option St:=if b=true then x s else none
@[simp] theorem zEr (x:St→Option St) (s:St):akK true x s=x s:=rfl
def zDv (f:Option Eff) (d:Option Nat) (x:St→Option St) (l:List GV):Option St :=
 match f with
 | some f=>x (f.on d ⟨⟨l,0⟩,f.H⟩)
 | none=>none
@[simp] theorem zDw (v:GV) (H:GH) (g d:Nat) (x:St→Option St) (l:List GV):zDv (some ⟨v,none,H,g⟩) (some d) x l=x ⟨⟨lput l d v,g⟩,H⟩:=rfl
@[simp] theorem zDx (v:GV) (H:GH) (g:Nat) (x:St→Option St) (l:List GV):zDv (some ⟨v,none,H,g⟩) none x l=x ⟨⟨l,g⟩,H⟩:=rfl
@[simp] theorem zEs (v w:GV) (b:Nat) (H:GH) (g d:Nat) (x:St→Option St) (l:List GV):zDv (some ⟨v,some (b,w),H,g⟩) (some d) x l=x ⟨⟨lput (lput l b w) d v,g⟩,H⟩:=rfl
@[simp] theorem zyg (v w:GV) (b:Nat) (H:GH) (g:Nat) (x:St→Option St) (l:List GV):zDv (some ⟨v,some (b,w),H,g⟩) none x l=x ⟨⟨lput l b w,g⟩,H⟩:=rfl
def zcr (v:Option GV) (g:Nat) (H:GH):Option Eff:=v.map fun v=>⟨v,none,H,g⟩
@[simp] theorem zBk (v:GV) (g:Nat) (H:GH):zcr (some v) g H=some ⟨v,none,H,g⟩:=rfl
def zhS (r:Option (GV × GH)) (g:Nat):Option Eff:=r.map fun r=>⟨r.1,none,r.2,g⟩
@[simp] theorem zBl (v:GV) (g:Nat) (H:GH):zhS (some (v,H)) g=some ⟨v,none,H,g⟩:=rfl
def zzr (r:Option (GV × GH)) (g:Nat) (H:GH):Option Eff:=r.map fun r=>⟨r.1,none,H,g⟩
@[simp] theorem zAv (v:GV) (g:Nat) (H H':GH):zzr (some (v,H')) g H=some ⟨v,none,H,g⟩:=rfl
theorem zrk (d:Option Nat) (t:Nat) (w:Bool) (p:Prim) (as:List Src) (ak:Option AK) (o:List IOp) (l:List GV) (g:Nat) (H:GH) :
 zbO call (⟨d,some (t,w),p,as,ak⟩::o) ⟨⟨l,g⟩,H⟩=zgI (zad l t) w (zbO call (⟨d,none,p,as,ak⟩::o)) (zbO call o) d ⟨⟨l,g⟩,H⟩:=by
 simp only [zbO,gop,zbs]
 cases hv:zad l t <;> try rfl
 ·rename_i b
  cases b <;> cases w <;> rfl
 ·rename_i vs
  cases vs <;> rfl
theorem zAw (d:Option Nat) (p:Prim) (k:AK) (a:Src) (as:List Src) (o:List IOp) (l:List GV) (g:Nat) (H:GH) :
 zbO call (⟨d,none,p,a::as,some k⟩::o) ⟨⟨l,g⟩,H⟩=akK (k.fits (zaf ⟨l,g⟩ a)) (zbO call (⟨d,none,p,a::as,none⟩::o)) ⟨⟨l,g⟩,H⟩:=by
 cases hk:k.fits (zaf ⟨l,g⟩ a) <;> simp [zbO,gop,zbs,zr4,akK,hk]
theorem zAx (d:Option Nat) (p:Prim) (as:List Src) (o:List IOp) (l:List GV) (g:Nat) (H:GH) :
 zbO call (⟨d,none,p,as,none⟩::o) ⟨⟨l,g⟩,H⟩=zDv (zas call p (as.map (zaf ⟨l,g⟩)) ⟨l,g⟩ H) d (zbO call o) l:=by
 simp only [zbO,gop,zbs,zr4,if_true]
 cases zas call p (as.map (zaf ⟨l,g⟩)) ⟨l,g⟩ H with
 | none=>rfl
 | some f =>
  obtain ⟨v,b,H',g'⟩:=f
  cases d <;> (cases b <;> rfl)
variable (l:List GV) (g:Nat) (H:GH) (a b c:GV)
theorem zAy:zas call .id [a] ⟨l,g⟩ H=some ⟨a,none,H,g⟩:=rfl
theorem zvv (x:Bool):zas call .pick [.bool x,a,b] ⟨l,g⟩ H=some ⟨if x=true then a else b,none,H,g⟩:=rfl
theorem zyh (op:BinOp):zas call (.bin op) [a,b] ⟨l,g⟩ H=zcr (zuH op a b) g H:=rfl
theorem zyi (n:Bool) (ls:List Leaf) (x y:List GV):zas call (.eqv n ls) [.agg x,.agg y] ⟨l,g⟩ H=zcr ((zaH ls x y).map fun b=>.bool (if n=true then !b else b)) g H:=rfl
theorem zyj (n:Bool) (lf:Leaf):zas call (.eq1 n lf) [a,b] ⟨l,g⟩ H=zcr ((zbb lf a b).map fun b=>.bool (if n=true then !b else b)) g H:=rfl
theorem zAz (op:UnOp):zas call (.un op) [a] ⟨l,g⟩ H=zcr (gUn op a) g H:=rfl
theorem zvw (k k':IntKind) (n:Int):zas call (.conv k) [.int k' n] ⟨l,g⟩ H=some ⟨.int k (k.wrap n),none,H,g⟩:=rfl
theorem zrl (s:ByteArray):zas call .strid [.str s] ⟨l,g⟩ H=some ⟨.str s,none,H,g⟩:=rfl
theorem zyk (sz:Nat) (xs:List GV) (t:Tag):zas call .b2s [.sl sz xs t] ⟨l,g⟩ H=zcr ((zc4 xs).map fun l=>.str ⟨l.toArray⟩) g H:=rfl
theorem zmT:zas call .b2s [.nilsl] ⟨l,g⟩ H=some ⟨.str .empty,none,H,g⟩:=rfl
theorem zrm (z:List GV) (ps:List (Nat × Nat)) (vs:List GV):zas call (.build z ps) vs ⟨l,g⟩ H=zcr (if oks vs&&vs.length == ps.length then (zaK z (ps.zip vs)).map .agg else none) g H:=rfl
theorem zmU (off s g' o:Nat):zas call (.faddr off) [.laddr s g' o] ⟨l,g⟩ H=some ⟨.laddr s g' (o+off),none,H,g⟩:=rfl
theorem zmV (off i o:Nat):zas call (.faddr off) [.ptr i o] ⟨l,g⟩ H=some ⟨.ptr i (o+off),none,H,g⟩:=rfl
theorem zmW (off:Nat) (cs:List GV) (o:Nat):zas call (.faddr off) [.el cs o] ⟨l,g⟩ H=some ⟨.el cs (o+off),none,H,g⟩:=rfl
theorem zrn (off sz:Nat) (ag:Bool) (cs:List GV):zas call (.field off sz ag) [.agg cs] ⟨l,g⟩ H=zcr (zb2 cs off sz ag) g H:=rfl
theorem zot (sz:Nat) (xs:List GV) (t:Tag):zas call (.ixaddr sz) [.sl sz xs t,a] ⟨l,g⟩ H=zcr ((gIx xs.length a).bind fun i=>(xs[i]?).map fun x=>.el x.cells 0) g H:=by
 show ((if sz=sz then _ else _:Option GV).map _)=_
 rw [if_pos rfl]; rfl
theorem zlo (sz id off len:Nat) (ag:Bool):zas call (.ixaddr sz) [.hsl id off len sz ag,a] ⟨l,g⟩ H=zcr ((gIx len a).map fun i=>.ptr id (off+i * sz)) g H:=by
 show ((if sz=sz then _ else _:Option GV).map _)=_
 rw [if_pos rfl]; rfl
theorem zjG (n sz s g' o:Nat):zas call (.ixaddrA n sz) [.laddr s g' o,a] ⟨l,g⟩ H=zcr ((gIx n a).map fun i=>.laddr s g' (o+i * sz)) g H:=rfl
theorem zjH (n sz i o:Nat):zas call (.ixaddrA n sz) [.ptr i o,a] ⟨l,g⟩ H=zcr ((gIx n a).map fun j=>.ptr i (o+j * sz)) g H:=rfl
theorem zjI (n sz:Nat) (cs:List GV) (o:Nat):zas call (.ixaddrA n sz) [.el cs o,a] ⟨l,g⟩ H=zcr ((gIx n a).map fun j=>.el cs (o+j * sz)) g H:=rfl
theorem zro (s:ByteArray):zas call .ixstr [.str s,a] ⟨l,g⟩ H=zcr ((gIx s.size a).bind fun i=>(s[i]?).map fun b=>.int .u8 b.toNat) g H:=rfl
theorem zrp (n sz:Nat) (ag:Bool) (cs:List GV):zas call (.ixarr n sz ag) [.agg cs,a] ⟨l,g⟩ H=zcr ((gIx n a).bind fun i=>zb2 cs (i * sz) sz ag) g H:=rfl
theorem zrq (lo hi:Bool) (s:ByteArray) (bs:List GV):zas call (.slstr lo hi) (.str s::bs) ⟨l,g⟩ H=zcr ((zay s.size lo hi false bs).map fun (l,h,_)=>.str (s.extract l h)) g H:=rfl
theorem zdM (sz:Nat) (lo hi mx:Bool) (xs:List GV) (t:Tag) (bs:List GV):zas call (.slsl sz lo hi mx) (.sl sz xs t::bs) ⟨l,g⟩ H =
 zcr ((zay xs.length lo hi mx bs).map fun (l,h,m)=>.sl sz ((xs.drop l).take (h - l)) (zfF t xs.length h m)) g H:=by
 show ((if sz=sz then _ else _:Option GV).map _)=_
 rw [if_pos rfl]; rfl
theorem zgJ (sz:Nat) (lo hi mx:Bool) (bs:List GV):zas call (.slsl sz lo hi mx) (.nilsl::bs) ⟨l,g⟩ H=zcr ((zay 0 lo hi mx bs).map fun _=>.nilsl) g H:=rfl
theorem zlp (s g' o:Nat):zas call .nilchk [.laddr s g' o] ⟨l,g⟩ H=some ⟨.laddr s g' o,none,H,g⟩:=rfl
theorem zlq (i o:Nat):zas call .nilchk [.ptr i o] ⟨l,g⟩ H=some ⟨.ptr i o,none,H,g⟩:=rfl
theorem zlr (cs:List GV) (o:Nat):zas call .nilchk [.el cs o] ⟨l,g⟩ H=some ⟨.el cs o,none,H,g⟩:=rfl
theorem zls (i:Nat):zas call .nilchk [.map i] ⟨l,g⟩ H=some ⟨.map i,none,H,g⟩:=rfl
theorem zlt (f:Nat) (x y:List GV):zas call .nilchk [.func f x y] ⟨l,g⟩ H=some ⟨.func f x y,none,H,g⟩:=rfl
theorem zlu (t:Nat) (v:GV):zas call .nilchk [.iface t v] ⟨l,g⟩ H=some ⟨.iface t v,none,H,g⟩:=rfl
theorem zi0 (x:List GV):zas call .nilchk [.agg x] ⟨l,g⟩ H=some ⟨.agg x,none,H,g⟩:=rfl
theorem zjJ (sz:Nat) (x:List GV) (t:Tag):zas call .nilchk [.sl sz x t] ⟨l,g⟩ H=some ⟨.sl sz x t,none,H,g⟩:=rfl
theorem zmX (i:Nat) (vs:List GV):zas call (.extract i) [.tup vs] ⟨l,g⟩ H=zcr (vs[i]?) g H:=rfl
theorem zou (f n:Nat) (vs:List GV):zas call (.mkfunc f n) vs ⟨l,g⟩ H=zcr (if oks vs then some (.func f (vs.take n) (vs.drop n)) else none) g H:=rfl
theorem zov (s:ByteArray):zas call .lenstr [.str s] ⟨l,g⟩ H=some ⟨.int .i64 s.size,none,H,g⟩:=rfl
theorem zjK:zas call .lensl [.nilsl] ⟨l,g⟩ H=some ⟨.int .i64 0,none,H,g⟩:=rfl
theorem zrr (sz:Nat) (xs:List GV) (t:Tag):zas call .lensl [.sl sz xs t] ⟨l,g⟩ H=some ⟨.int .i64 xs.length,none,H,g⟩:=rfl
theorem zmY (x y n sz:Nat) (ag:Bool):zas call .lensl [.hsl x y n sz ag] ⟨l,g⟩ H=some ⟨.int .i64 n,none,H,g⟩:=rfl
theorem zvx (n:Nat):zas call (.lenN n) [a] ⟨l,g⟩ H=some ⟨.int .i64 n,none,H,g⟩:=rfl
theorem zow (mx:Bool) (k k':IntKind) (x y:Int):zas call (.minmax mx) [.int k x,.int k' y] ⟨l,g⟩ H=some ⟨.int k (if mx=true then (if y > x then y else x) else (if y<x then y else x)),none,H,g⟩:=rfl
theorem zox (z:List GV):zas call (.allocL z) [] ⟨l,g⟩ H=some ⟨.lbox g z,none,H,g+1⟩:=rfl
theorem zoy (k:Nat) (z:List GV):zas call (.allocK k z) [] ⟨l,g⟩ H=some ⟨.lbox (g+k) z,none,H,g⟩:=rfl
theorem zoz (k:Nat) (s:ByteArray):zas call (.rangeK k) [.str s] ⟨l,g⟩ H=some ⟨.siter (g+k) s 0,none,H,g⟩:=rfl
def boxK (b:Bool) (f:Eff):Option Eff:=if b=true then some f else none
@[simp] theorem zDy (f:Eff):boxK true f=some f:=rfl
theorem zvy:zas call .boxL [a] ⟨l,g⟩ H=boxK a.ok ⟨.lbox g a.cells,none,H,g+1⟩:=rfl
theorem zrs (k:Nat):zas call (.boxK k) [a] ⟨l,g⟩ H=boxK a.ok ⟨.lbox (g+k) a.cells,none,H,g⟩:=rfl
theorem zoA (t:Nat) (z:List GV):zas call (.allocH t z) [] ⟨l,g⟩ H=some ⟨.ptr H.objs.length 0,none,H.newObj (.cells t z),g⟩:=rfl
theorem zvz (t:Nat):zas call (.boxH t) [a] ⟨l,g⟩ H=boxK a.ok ⟨.ptr H.objs.length 0,none,H.newObj (.cells t a.cells),g⟩:=rfl
def zmZ (v:GV) (g:Nat) (f:List GV→Option GV):Option GV :=
 match v with
 | .lbox g' cs=>if g'=g then f cs else none
 | _=>none
@[simp] theorem zAA (g:Nat) (cs:List GV) (f:List GV→Option GV):zmZ (.lbox g cs) g f=f cs:=if_pos rfl
theorem zoB (sz:Nat) (ag:Bool) (s g' o:Nat):zas call (.load sz ag) [.laddr s g' o] ⟨l,g⟩ H=zcr (zmZ (zad l s) g' fun cs=>zb2 cs o sz ag) g H:=by
 show (((zeP ⟨l,g⟩ s g').bind _:Option GV).map _)=_
 unfold zeP zmZ zcr
 simp only
 generalize zad l s=v
 cases v <;> try rfl
 rename_i g1 cs
 by_cases h:g1=g' <;> simp [h]
theorem zoC (sz:Nat) (ag:Bool) (cs:List GV) (o:Nat):zas call (.load sz ag) [.el cs o] ⟨l,g⟩ H=zcr (zb2 cs o sz ag) g H:=rfl
def zpB (o:Option GObj) (f:List GV→Option GV):Option GV :=
 match o with
 | some (.cells _ cs)=>f cs
 | some (.row _ cs)=>f cs
 | _=>none
@[simp] theorem zBm (t:Nat) (cs:List GV) (f:List GV→Option GV):zpB (some (.row t cs)) f=f cs:=rfl
@[simp] theorem zAB (t:Nat) (cs:List GV) (f:List GV→Option GV):zpB (some (.cells t cs)) f=f cs:=rfl
theorem zoD (sz:Nat) (ag:Bool) (i o:Nat):zas call (.load sz ag) [.ptr i o] ⟨l,g⟩ H=zcr (zpB (H.objs[i]?) fun cs=>zb2 cs o sz ag) g H:=by
 show ((_:Option GV).map _)=zcr (match H.objs[i]? with | some (.cells _ cs)=>zb2 cs o sz ag | some (.row _ cs)=>zb2 cs o sz ag | _=>none) g H
 rfl
def zvA (v:GV) (s g' o:Nat) (x:List GV) (g:Nat) (H:GH):Option Eff :=
 match v with
 | .lbox g'' cs=>if g''=g' then (zae cs o x).map fun cs'=>⟨.junk,some (s,.lbox g' cs'),H,g⟩ else none
 | _=>none
def zGy (r:Option (List GV)) (s g' g:Nat) (H:GH):Option Eff:=r.map fun cs'=>⟨.junk,some (s,.lbox g' cs'),H,g⟩
@[simp] theorem zDz (cs:List GV) (s g' g:Nat) (H:GH):zGy (some cs) s g' g H=some ⟨.junk,some (s,.lbox g' cs),H,g⟩:=rfl
@[simp] theorem zAC (g':Nat) (cs:List GV) (s o:Nat) (x:List GV):zvA (.lbox g' cs) s g' o x g H=zGy (zae cs o x) s g' g H:=if_pos rfl
def zm0 (b:Bool) (f:Option Eff):Option Eff:=if b=true then f else none
@[simp] theorem zAD (f:Option Eff):zm0 true f=f:=rfl
theorem zm1 (sz s g' o:Nat):zas call (.store sz) [.laddr s g' o,a] ⟨l,g⟩ H=zm0 (a.ok&&a.flat&&a.cells.length == sz) (zvA (zad l s) s g' o a.cells g H):=by
 simp only [zas,zm0]
 split
 ·unfold zeP zvA
  simp only
  generalize zad l s=v
  cases v <;> try rfl
  rename_i g1 cs
  by_cases h:g1=g' <;> simp [h]
 ·rfl
def zpC (o:Option GObj) (bo i off:Nat) (x:List GV) (g:Nat) (H:GH):Option Eff :=
 match o with
 | some (.cells t cs)=>if bo≤i then (zae cs off x).map fun cs'=>⟨.junk,none,{ H with objs:=H.objs.set i (.cells t cs') },g⟩ else none
 | some (.row t cs)=>if bo≤i then (zae cs off x).map fun cs'=>⟨.junk,none,{ H with objs:=H.objs.set i (.row t cs') },g⟩ else none
 | _=>none
def zDA (t:Nat) (r:Option (List GV)) (i g:Nat) (H:GH):Option Eff:=r.map fun cs'=>⟨.junk,none,{ H with objs:=H.objs.set i (.row t cs') },g⟩
@[simp] theorem zBn (t:Nat) (cs:List GV) (i g:Nat) (H:GH):zDA t (some cs) i g H=some ⟨.junk,none,{ H with objs:=H.objs.set i (.row t cs) },g⟩:=rfl
def zDB (t:Nat) (r:Option (List GV)) (i g:Nat) (H:GH):Option Eff:=r.map fun cs'=>⟨.junk,none,{ H with objs:=H.objs.set i (.cells t cs') },g⟩
@[simp] theorem zBo (t:Nat) (cs:List GV) (i g:Nat) (H:GH):zDB t (some cs) i g H=some ⟨.junk,none,{ H with objs:=H.objs.set i (.cells t cs) },g⟩:=rfl
@[simp] theorem zvB (t:Nat) (cs:List GV) (bo i off:Nat) (x:List GV):zpC (some (.row t cs)) bo i off x g H=if bo≤i then zDA t (zae cs off x) i g H else none:=rfl
@[simp] theorem zAE (t:Nat) (cs:List GV) (bo i off:Nat) (x:List GV):zpC (some (.cells t cs)) bo i off x g H=if bo≤i then zDB t (zae cs off x) i g H else none:=rfl
theorem zm2 (sz i o:Nat):zas call (.store sz) [.ptr i o,a] ⟨l,g⟩ H=zm0 (a.ok&&a.flat&&a.cells.length == sz) (zpC (H.objs[i]?) H.bo i o a.cells g H):=by
 simp only [zas,zm0]
 split
 ·unfold zpC
  cases H.objs[i]? with
  | none=>rfl
  | some ob=>cases ob <;> rfl
 ·rfl
theorem zyl (s:ByteArray):zas call .s2b [.str s] ⟨l,g⟩ H=if s.size≤maxLen then some ⟨.sl 1 (zbo s) .imm,none,H,g⟩ else none:=rfl
theorem zm3 (sz len:Nat) (z:GV) (idx:List Nat) (as:List GV):zas call (.buildSl sz len z idx) as ⟨l,g⟩ H =
 if oks as&&as.length == idx.length&&as.all (fun v=>v.cells.length == sz&&v.flat)&&idx.all (· < len)&&z.cells.length == sz&&z.flat then
  some ⟨.sl sz (zak (List.replicate len z) (idx.zip as)) .exact,none,H,g⟩ else none:=rfl
theorem zoE (ty sz len:Nat) (z:GV) (idx:List Nat) (as:List GV):zas call (.buildR ty sz len z idx) as ⟨l,g⟩ H =
 if oks as&&as.length == idx.length&&as.all (fun v=>v.cells.length == sz&&v.flat)&&idx.all (· < len)&&z.cells.length == sz&&z.flat then
  some ⟨.hsl H.objs.length 0 len sz false,none,H.newObj (.row ty ((zak (List.replicate len z) (idx.zip as)).flatMap GV.cells)),g⟩ else none:=rfl
theorem zrt (ty sz bytes:Nat) (z:GV):zas call (.makeR ty sz bytes z) [a,b] ⟨l,g⟩ H=zhS (zmu H ty sz bytes z a b) g:=rfl
theorem zym:zas call .b2r [a] ⟨l,g⟩ H=zcr (zEo H [a]) g H:=rfl
theorem zoF (ty sz bytes:Nat):zas call (.append ty sz bytes) [a,b] ⟨l,g⟩ H=zhS (zaV H ty sz bytes a b) g:=rfl
theorem zm4 (ty:Nat):zas call (.appendS ty) [a,b] ⟨l,g⟩ H=zhS (zaV H ty 1 1 a b) g:=rfl
theorem zru (s:ByteArray):zas call .range [.str s] ⟨l,g⟩ H=some ⟨.siter g s 0,none,H,g+1⟩:=rfl
theorem zvC (f:Nat) (as:List GV):zas call (.call f) as ⟨l,g⟩ H=if oks as=true then zhS (call f as H) g else none:=rfl
theorem zrv (f:Nat) (as:List GV):zas call (.callP f) as ⟨l,g⟩ H=if oks as=true then zzr (call f as H) g H else none:=rfl
theorem zrw (f:Nat) (x y as:List GV):zas call .callv (.func f x y::as) ⟨l,g⟩ H=if oks as=true then zhS (call f (x++as++y) H) g else none:=rfl
end
@[simp] theorem zEt (s g o:Nat):AK.fits (.loc s) (.laddr s g o)=true:=by simp [AK.fits]
@[simp] theorem zGf (cs:List GV) (o:Nat):AK.fits .el (.el cs o)=true:=rfl
@[simp] theorem zDC (i o:Nat):AK.fits .heap (.ptr i o)=true:=rfl
def zbJ (t:Nat):GV→GV
 | .lbox g _=>.laddr t g 0
 | .siter g _ _=>.laddr t g 0
 | v=>v
theorem zrx (l:List GV) (g t:Nat):zaf ⟨l,g⟩ (.slot t)=zbJ t (zad l t):=rfl
theorem zvD (e:Env) (v:GV):zaf e (.val v)=v:=rfl
@[simp] theorem zBp (t:Nat):zbJ t .junk=.junk:=rfl
@[simp] theorem zBq (t:Nat):∀ b,zbJ t (.bool b)=.bool b:=by intros; rfl
@[simp] theorem zDD (t:Nat):∀ k n,zbJ t (.int k n)=.int k n:=by intros; rfl
@[simp] theorem zDE (t:Nat):∀ s,zbJ t (.str s)=.str s:=by intros; rfl
@[simp] theorem zzs (t:Nat):zbJ t .nilptr=.nilptr:=rfl
@[simp] theorem zDF (t:Nat):∀ i o,zbJ t (.ptr i o)=.ptr i o:=by intros; rfl
@[simp] theorem zAF (t:Nat):zbJ t .nilsl=.nilsl:=rfl
@[simp] theorem zEu (t:Nat):∀ a b c,zbJ t (.sl a b c)=.sl a b c:=by intros; rfl
@[simp] theorem zDG (t:Nat):∀ a b c d e,zbJ t (.hsl a b c d e)=.hsl a b c d e:=by intros; rfl
@[simp] theorem zzt (t:Nat):zbJ t .nilmap=.nilmap:=rfl
@[simp] theorem zDH (t:Nat):∀ i,zbJ t (.map i)=.map i:=by intros; rfl
@[simp] theorem zyn (t:Nat):zbJ t .nilfunc=.nilfunc:=rfl
@[simp] theorem zBr (t:Nat):∀ f a b,zbJ t (.func f a b)=.func f a b:=by intros; rfl
@[simp] theorem zwv (t:Nat):zbJ t .niliface=.niliface:=rfl
@[simp] theorem zAG (t:Nat):∀ a v,zbJ t (.iface a v)=.iface a v:=by intros; rfl
@[simp] theorem zDI (t:Nat):∀ a,zbJ t (.agg a)=.agg a:=by intros; rfl
@[simp] theorem zDJ (t:Nat):∀ a,zbJ t (.tup a)=.tup a:=by intros; rfl
@[simp] theorem zEv (t:Nat):∀ a b,zbJ t (.el a b)=.el a b:=by intros; rfl
@[simp] theorem zAH (t:Nat):∀ a b c,zbJ t (.laddr a b c)=.laddr a b c:=by intros; rfl
@[simp] theorem zBs (t g:Nat) (cs:List GV):zbJ t (.lbox g cs)=.laddr t g 0:=rfl
@[simp] theorem zAI (t g:Nat) (b:ByteArray) (p:Nat):zbJ t (.siter g b p)=.laddr t g 0:=rfl
@[simp] theorem zEw {t:Nat} {v:GV} (h:v.ok=true):zbJ t v=v:=by
  cases v <;> first | rfl | simp [GV.ok] at h
@[simp] theorem zEx (i:Nat):zad [] i=.junk:=rfl
@[simp] theorem zDK (v:GV) (l:List GV):zad (v::l) 0=v:=rfl
@[simp] theorem zDL (v:GV) (l:List GV) (i:Nat):zad (v::l) (i+1)=zad l i:=by simp [zad,List.getD]
section
variable (k:IntKind) (x y:Int)
theorem zyo:zkc .eql k x y=some (.bool (decide (x=y))):=by simp only [zkc]; congr 2
theorem zyp:zkc .neq k x y=some (.bool (decide (x≠y))):=by
 have:(x != y)=decide (x≠y):=by rw [Bool.eq_iff_iff]; simp
 simp only [zkc,this]
theorem zyq:zkc .lss k x y=some (.bool (decide (x<y))):=rfl
theorem zyr:zkc .leq k x y=some (.bool (decide (x≤y))):=rfl
theorem zys:zkc .gtr k x y=some (.bool (decide (y<x))):=rfl
theorem zyt:zkc .geq k x y=some (.bool (decide (y≤x))):=rfl
theorem zyu:zkc .add k x y=some (.int k (k.wrap (x+y))):=rfl
theorem zyv:zkc .sub k x y=some (.int k (k.wrap (x - y))):=rfl
theorem zyw:zkc .mul k x y=some (.int k (k.wrap (x * y))):=rfl
end
theorem zyx (k:IntKind) (x y:Int):∀ {op:BinOp},(match op with | .shl | .shr=>false | _=>true)=true→zuH op (.int k x) (.int k y)=zkc op k x y:=by
 intro op h
 cases op <;> simp_all [zuH]
theorem zyy (k k':IntKind) (x y:Int):zuH .shl (.int k x) (.int k' y)=ziw .shl k x y:=rfl
theorem zyz (k k':IntKind) (x y:Int):zuH .shr (.int k x) (.int k' y)=ziw .shr k x y:=rfl
theorem zyA (op:BinOp) (x y:ByteArray):zuH op (.str x) (.str y)=zcM op x y:=rfl
theorem zm5 (x y:ByteArray):(x.toList == y.toList)=decide (x=y):=by
 rw [Bool.eq_iff_iff]
 simp only [beq_iff_eq,decide_eq_true_eq]
 constructor
 ·intro h
  rw [ByteArray.toList_eq,ByteArray.toList_eq] at h
  cases x; cases y
  simp only at h
  rw [Array.ext' h]
 ·intro h; rw [h]
theorem zyB (x y:ByteArray):zcM .eql x y=some (.bool (decide (x=y))):=by simp only [zcM,zm5]
theorem zyC (x y:ByteArray):zcM .neq x y=some (.bool (decide (x≠y))):=by simp only [zcM,zm5,decide_not]
theorem zAJ (b:Bool):gUn .not (.bool b)=some (.bool !b):=rfl
theorem zAK (k:IntKind) (n:Int):gUn .neg (.int k n)=some (.int k (k.wrap (0 - n))):=rfl
theorem zry (cs:List GV) (off sz:Nat):zb2 cs off sz false=cs[off]?:=rfl
theorem zrz (cs:List GV) (off sz:Nat):zb2 cs off sz true=if off+sz≤cs.length then some (.agg ((cs.drop off).take sz)) else none:=rfl
theorem zvE (a b:Bool):zbb .bool (.bool a) (.bool b)=some (a == b):=rfl
theorem zyD (k k':IntKind) (a b:Int):zbb (.int k') (.int k a) (.int k b)=some (a == b):=by show (if k=k then _ else _)=_; rw [if_pos rfl]
theorem zyE (a b:ByteArray):zbb .str (.str a) (.str b)=some (decide (a=b)):=by
 show some (a == b)=_
 congr 1
 obtain ⟨a⟩:=a; obtain ⟨b⟩:=b
 have:((⟨a⟩:ByteArray) == ⟨b⟩)=(a == b):=rfl
 rw [this,Bool.eq_iff_iff]; simp
theorem zoG:zbb .ptr .nilptr .nilptr=some true:=rfl
theorem zoH (i o:Nat):zbb .ptr .nilptr (.ptr i o)=some false:=rfl
theorem zoI (i o:Nat):zbb .ptr (.ptr i o) .nilptr=some false:=rfl
theorem zrA:zbb .slice .nilsl .nilsl=some true:=rfl
theorem zrB (a:Nat) (b:List GV) (c:Tag):zbb .slice .nilsl (.sl a b c)=some false:=rfl
theorem zrC (a:Nat) (b:List GV) (c:Tag):zbb .slice (.sl a b c) .nilsl=some false:=rfl
theorem zrD:zbb .iface .niliface .niliface=some true:=rfl
theorem zrE (t:Nat) (v:GV):zbb .iface .niliface (.iface t v)=some false:=rfl
theorem zrF (t:Nat) (v:GV):zbb .iface (.iface t v) .niliface=some false:=rfl
theorem zrG:zbb .func .nilfunc .nilfunc=some true:=rfl
theorem zrH (f:Nat) (x y:List GV):zbb .func .nilfunc (.func f x y)=some false:=rfl
theorem zrI (f:Nat) (x y:List GV):zbb .func (.func f x y) .nilfunc=some false:=rfl
attribute [simp] zAu zvu zrj zye zyf zrk zAw zAx
 zAy zvv zyh zyi zyj zAz zvw zrl zyk zmT zrm zmU zmV zmW zrn zot zlo
 zjG zjH zjI zro zrp zrq zdM zgJ zlp zlq zlr zls zlt zlu zi0 zjJ
 zmX zou zov zjK zrr zmY zvx zow zox zvy zoA zvz zoB zoC zoD zm1 zm2
 zyl zm3 zoE zrt zym zoF zm4 zru zvC zrv zrw
 zrx zvD zal zyx zyy zyz zyA zyB zyC zAJ zAK zry zrz
 zvE zyD zyE zoG zoH zoI zrA zrB zrC zrD zrE zrF zrG zrH zrI
 zyo zyp zyq zyr zys zyt zyu zyv zyw
 zvo zvq zvp zya zvr zoy zoz zrs
section
variable (k:IntKind) (n:Int) (a:Nat) (xs ys:List GV) (t:Tag) (s:ByteArray) (v:GV)
@[simp] theorem zGg (b:Bool):(GV.bool b).ok=true:=rfl
@[simp] theorem zGz:(GV.int k n).ok=true:=rfl
@[simp] theorem zGA:(GV.str s).ok=true:=rfl
@[simp] theorem zDM:GV.nilptr.ok=true:=rfl
@[simp] theorem zGB (o:Nat):(GV.ptr a o).ok=true:=rfl
@[simp] theorem zEy:GV.nilsl.ok=true:=rfl
@[simp] theorem zG0:(GV.sl a xs t).ok=true:=rfl
@[simp] theorem zGC (b c d:Nat) (e:Bool):(GV.hsl a b c d e).ok=true:=rfl
@[simp] theorem zDN:GV.nilmap.ok=true:=rfl
@[simp] theorem zGD:(GV.map a).ok=true:=rfl
@[simp] theorem zBt:GV.nilfunc.ok=true:=rfl
@[simp] theorem zGh:(GV.func a xs ys).ok=true:=rfl
@[simp] theorem zAL:GV.niliface.ok=true:=rfl
@[simp] theorem zEz:(GV.iface a v).ok=true:=rfl
@[simp] theorem zGE:(GV.agg xs).ok=true:=rfl
@[simp] theorem zGF:(GV.tup xs).ok=true:=rfl
@[simp] theorem zG1 (o:Nat):(GV.el xs o).ok=true:=rfl
@[simp] theorem zGi:oks []=true:=rfl
@[simp] theorem zyF (x:GV) (l:List GV):oks (x::l)=(x.ok&&oks l):=rfl
@[simp] theorem zBu (b:Bool):(GV.bool b).cells=[.bool b]:=rfl
@[simp] theorem zDO:(GV.int k n).cells=[.int k n]:=rfl
@[simp] theorem zDP:(GV.str s).cells=[.str s]:=rfl
@[simp] theorem zzu:GV.nilptr.cells=[.nilptr]:=rfl
@[simp] theorem zDQ (o:Nat):(GV.ptr a o).cells=[.ptr a o]:=rfl
@[simp] theorem zAM:GV.nilsl.cells=[.nilsl]:=rfl
@[simp] theorem zEA:(GV.sl a xs t).cells=[.sl a xs t]:=rfl
@[simp] theorem zDR (b c d:Nat) (e:Bool):(GV.hsl a b c d e).cells=[.hsl a b c d e]:=rfl
@[simp] theorem zzv:GV.nilmap.cells=[.nilmap]:=rfl
@[simp] theorem zDS:(GV.map a).cells=[.map a]:=rfl
@[simp] theorem zyG:GV.nilfunc.cells=[.nilfunc]:=rfl
@[simp] theorem zBv:(GV.func a xs ys).cells=[.func a xs ys]:=rfl
@[simp] theorem zww:GV.niliface.cells=[.niliface]:=rfl
@[simp] theorem zAN:(GV.iface a v).cells=[.iface a v]:=rfl
@[simp] theorem zDT:(GV.agg xs).cells=xs:=rfl
@[simp] theorem zEB (b:Bool):(GV.bool b).one=true:=rfl
@[simp] theorem zGj:(GV.int k n).one=true:=rfl
@[simp] theorem zGk:(GV.str s).one=true:=rfl
@[simp] theorem zBw:GV.nilptr.one=true:=rfl
@[simp] theorem zGl (o:Nat):(GV.ptr a o).one=true:=rfl
@[simp] theorem zDU:GV.nilsl.one=true:=rfl
@[simp] theorem zGG:(GV.sl a xs t).one=true:=rfl
@[simp] theorem zGm (b c d:Nat) (e:Bool):(GV.hsl a b c d e).one=true:=rfl
@[simp] theorem zBx:GV.nilmap.one=true:=rfl
@[simp] theorem zGn:(GV.map a).one=true:=rfl
@[simp] theorem zAO:GV.nilfunc.one=true:=rfl
@[simp] theorem zEC:(GV.func a xs ys).one=true:=rfl
@[simp] theorem zzw:GV.niliface.one=true:=rfl
@[simp] theorem zDV:(GV.iface a v).one=true:=rfl
@[simp] theorem zED:v.flat=v.cells.all GV.one:=rfl
end
inductive App (H:GH) (sz:Nat):GV→List GV→Prop
 | nil:App H sz .nilsl []
 | exact (xs:List GV):App H sz (.sl sz xs .exact) xs
 | tok {t pos:Nat} {ty:Option Nat} (xs:List GV) (h:H.toks[t]?=some pos) (hb:H.bt≤t):App H sz (.sl sz xs (.tok t pos ty)) xs
theorem App.ok {H:GH} {sz:Nat} {s:GV} {xs:List GV} (h:App H sz s xs):s.ok=true:=by cases h <;> rfl
theorem App.objs {H:GH} {sz:Nat} {s:GV} {xs:List GV} (h:App H sz s xs) (o:List GObj):App { H with objs:=o } sz s xs:=by
 cases h with
 | nil=>exact .nil
 | exact=>exact .exact _
 | tok _ h hb=>exact .tok _ h hb
def zeX:GV→Option Nat
 | .sl _ _ (.tok t _ _)=>some t
 | _=>none
structure TokStep (own:Option Nat) (H H':GH):Prop where
 objs:H'.objs=H.objs
 bo:H'.bo=H.bo
 bt:H'.bt=H.bt
 len:H.toks.length≤H'.toks.length
 tok:∀ t p,own≠some t→H.toks[t]?=some p→H'.toks[t]?=some p
theorem TokStep.refl (own:Option Nat) (H:GH):TokStep own H H:=⟨rfl,rfl,rfl,Nat.le_refl _,fun _ _ _ h=>h⟩
def Heir (H:GH) (a b:GV):Prop:=zeX b=zeX a∨∀ t,zeX b=some t→H.toks.length≤t
theorem TokStep.andThen {a b:GV} {H H1 H2:GH} (h:TokStep (zeX a) H H1) (hh:Heir H a b) (h':TokStep (zeX b) H1 H2):TokStep (zeX a) H H2 :=
 ⟨h'.objs.trans h.objs,h'.bo.trans h.bo,h'.bt.trans h.bt,Nat.le_trans h.len h'.len,fun t p hne hp=>h'.tok t p (fun e=>by
   rcases hh with hh | hh
   ·exact hne (hh ▸ e)
   ·have:=hh t e
    have:=(List.getElem?_eq_some_iff.1 hp).1
    omega) (h.tok t p hne hp)⟩
theorem Heir.andThen {a b c:GV} {H H1:GH} (hh:Heir H a b) (hl:H.toks.length≤H1.toks.length) (h':Heir H1 b c):Heir H a c:=by
 rcases h' with h' | h'
 ·rcases hh with hh | hh
  ·exact .inl (h'.trans hh)
  ·exact .inr fun t e=>hh t (h' ▸ e)
 ·exact .inr fun t e=>Nat.le_trans hl (h' t e)
theorem zgK {H:GH} {ty sz bytes:Nat} {s x:GV} {xs ys:List GV} (ha:App H sz s xs) (hn:zbB sz x=some ys) (hbt:H.bt≤H.toks.length) (h1:(xs.length+ys.length) * bytes≤zdu) (h2:xs.length+ys.length≤maxLen) :
 ∃ s' H',zaV H ty sz bytes s x=some (s',H')∧App H' sz s' (xs++ys)∧TokStep (zeX s) H H'∧Heir H s s':=by
 unfold zaV
 rw [hn]
 simp only [Option.bind_some]
 cases ha with
 | nil =>
  simp only [List.length_nil,Nat.zero_add] at h1 h2
  by_cases hy:ys.isEmpty=true
  ·have:ys=[]:=by simpa using hy
   subst this
   exact ⟨.nilsl,H,by simp,.nil,.refl _ _,.inl rfl⟩
  ·simp only [hy,if_false,Bool.false_eq_true]
   rw [if_pos ⟨h1,h2⟩]
   refine ⟨_,_,rfl,.tok _ (by simp) hbt,⟨rfl,rfl,rfl,by simp,fun t p _ h=>?_⟩,.inr fun t h=>?_⟩
   ·rw [List.getElem?_append_left (List.getElem?_eq_some_iff.1 h).1]; exact h
   ·simp only [zeX,Option.some.injEq] at h; omega
 | exact =>
  simp only [ne_eq,not_true_eq_false,reduceCtorEq,or_self,if_false]
  by_cases hy:ys.isEmpty=true
  ·have:ys=[]:=by simpa using hy
   subst this
   exact ⟨_,H,by simp,by simpa using App.exact xs,.refl _ _,.inl rfl⟩
  ·simp only [hy,if_false,Bool.false_eq_true]
   rw [if_pos ⟨h1,h2⟩]
   refine ⟨_,_,rfl,.tok _ (by simp) hbt,⟨rfl,rfl,rfl,by simp,fun t p _ h=>?_⟩,.inr fun t h=>?_⟩
   ·rw [List.getElem?_append_left (List.getElem?_eq_some_iff.1 h).1]; exact h
   ·simp only [zeX,Option.some.injEq] at h; omega
 | @tok t pos ty' _ ht hb =>
  simp only [ne_eq,not_true_eq_false,reduceCtorEq,or_self,if_false]
  by_cases hy:ys.isEmpty=true
  ·have:ys=[]:=by simpa using hy
   subst this
   exact ⟨_,H,by simp,by simpa using App.tok xs ht hb,.refl _ _,.inl rfl⟩
  ·simp only [hy,if_false,Bool.false_eq_true]
   rw [if_pos ⟨h1,h2⟩,if_pos ⟨ht,hb⟩]
   have hlt:t<H.toks.length:=(List.getElem?_eq_some_iff.1 ht).1
   refine ⟨_,_,rfl,.tok _ (by simp [hlt]) hb,⟨rfl,rfl,rfl,by simp,fun t' p hne h=>?_⟩,.inl rfl⟩
   rw [List.getElem?_set_ne (by intro e; exact hne (by simp [zeX,e]))]
   exact h
theorem zec {H:GH} {ty sz bytes id len:Nat} {ag:Bool} {cs news:List GV} {x:GV} (ho:H.objs[id]?=some (.row ty cs)) (hn:zbB sz x=some news) (hl:cs.length=len * sz) (hb:H.bo≤id) (h1:(len+news.length) * bytes≤zdu) (h2:len+news.length≤maxLen) (h3:news≠[]) :
 zaV H ty sz bytes (.hsl id 0 len sz ag) x=some (.hsl H.objs.length 0 (len+news.length) sz ag,{ H with objs:=H.objs.set id .dead++[.row ty (cs++news.flatMap GV.cells)] }):=by
 unfold zaV
 rw [hn]
 simp only [Option.bind_some,ho]
 rw [if_pos ⟨trivial,trivial,trivial,hl,hb,h1,h2,by cases news with | nil=>exact absurd rfl h3 | cons _ _=>rfl⟩]
structure Grown (sz:Nat) (H:GH) (s:GV) (zs:List GV) (H':GH) (s':GV):Prop where
 app:App H' sz s' zs
 step:TokStep (zeX s) H H'
 heir:Heir H s s'
theorem Grown.refl {sz:Nat} {H:GH} {s:GV} {xs:List GV} (h:App H sz s xs):Grown sz H s xs H s:=⟨h,.refl _ _,.inl rfl⟩
theorem Grown.trans {sz:Nat} {H H1 H2:GH} {s s1 s2:GV} {xs ys:List GV} (h:Grown sz H s xs H1 s1) (h':Grown sz H1 s1 ys H2 s2):Grown sz H s ys H2 s2 :=
 ⟨h'.app,h.step.andThen h.heir h'.step,h.heir.andThen h.step.len h'.heir⟩
theorem Grown.ok {sz:Nat} {H H1:GH} {s s1:GV} {xs:List GV} (h:Grown sz H s xs H1 s1):s1.ok=true:=h.app.ok
theorem TokStep.btle {own:Option Nat} {H H':GH} (h:TokStep own H H') (hb:H.bt≤H.toks.length):H'.bt≤H'.toks.length:=by
 rw [h.bt]; exact Nat.le_trans hb h.len
theorem TokStep.trans {own:Option Nat} {H H1 H2:GH} (h:TokStep own H H1) (h':TokStep own H1 H2):TokStep own H H2 :=
 ⟨h'.objs.trans h.objs,h'.bo.trans h.bo,h'.bt.trans h.bt,Nat.le_trans h.len h'.len,fun t p hne hp=>h'.tok t p hne (h.tok t p hne hp)⟩
theorem TokStep.any {own:Option Nat} {H H':GH} (h:TokStep none H H'):TokStep own H H' :=
 ⟨h.objs,h.bo,h.bt,h.len,fun t p _ hp=>h.tok t p (by simp) hp⟩
theorem zbj {H:GH} {ty sz bytes:Nat} {s x:GV} {xs ys:List GV} (ha:App H sz s xs) (hn:zbB sz x=some ys) (hbt:H.bt≤H.toks.length) (h1:(xs.length+ys.length) * bytes≤zdu) (h2:xs.length+ys.length≤maxLen) :
 ∃ s' H',zaV H ty sz bytes s x=some (s',H')∧Grown sz H s (xs++ys) H' s':=by
 obtain ⟨s',H',a,b,c,d⟩:=zgK ha hn hbt h1 h2
 exact ⟨s',H',a,b,c,d⟩
inductive Elems (sz:Nat):GV→List GV→Prop
 | nil:Elems sz .nilsl []
 | sl (xs:List GV) (t:Tag):Elems sz (.sl sz xs t) xs
theorem App.elems {H:GH} {sz:Nat} {s:GV} {xs:List GV} (h:App H sz s xs):Elems sz s xs:=by cases h <;> constructor
theorem Elems.ok {sz:Nat} {s:GV} {xs:List GV} (h:Elems sz s xs):s.ok=true:=by cases h <;> rfl
theorem Elems.news {sz:Nat} {s:GV} {xs:List GV} (h:Elems sz s xs):zbB sz s=some xs:=by cases h <;> simp [zbB]
theorem Elems.len {sz:Nat} {s:GV} {xs:List GV} (h:Elems sz s xs) (call:Nat→List GV→GH→Option (GV × GH)) (l:List GV) (g:Nat) (H:GH):zas call .lensl [s] ⟨l,g⟩ H=some ⟨.int .i64 xs.length,none,H,g⟩:=by cases h <;> rfl
theorem Elems.b2s {s:GV} {xs:List GV} (h:Elems 1 s xs) (call:Nat→List GV→GH→Option (GV × GH)) (l:List GV) (g:Nat) (H:GH):zas call .b2s [s] ⟨l,g⟩ H=zcr ((zc4 xs).map fun l=>.str ⟨l.toArray⟩) g H:=by cases h <;> rfl
theorem Elems.cells {sz:Nat} {s:GV} {xs:List GV} (h:Elems sz s xs):s.cells=[s]:=by cases h <;> rfl
theorem Elems.one {sz:Nat} {s:GV} {xs:List GV} (h:Elems sz s xs):s.one=true:=by cases h <;> rfl
theorem Elems.is_sl {sz:Nat} {s:GV} {xs:List GV} (h:Elems sz s xs) {i:Nat} {x:GV} (hx:xs[i]?=some x):∃ t,s=.sl sz xs t:=by
 cases h with
 | nil=>simp at hx
 | sl xs t=>exact ⟨t,rfl⟩
theorem Elems.cut {sz:Nat} {s:GV} {xs:List GV} (h:Elems sz s xs) {lo hi mx:Bool} {bs:List GV} {a b:Nat} {m:Option Nat} (hb:zay xs.length lo hi mx bs=some (a,b,m)) :
 ∃ s',(∀ (call:Nat→List GV→GH→Option (GV × GH)) (l:List GV) (g:Nat) (H:GH),zas call (.slsl sz lo hi mx) (s::bs) ⟨l,g⟩ H=some ⟨s',none,H,g⟩)∧Elems sz s' ((xs.drop a).take (b - a)):=by
 cases h with
 | nil=>exact ⟨.nilsl,fun call l g H=>by rw [zgJ]; simp only [List.length_nil] at hb; rw [hb]; rfl,by simpa using Elems.nil⟩
 | sl xs t=>exact ⟨.sl sz _ _,fun call l g H=>by rw [zdM,hb]; rfl,.sl _ _⟩
structure Mods (ids:Nat→Prop) (H H':GH):Prop where
 bo:H'.bo=H.bo
 bt:H'.bt=H.bt
 olen:H.objs.length≤H'.objs.length
 obj:∀ j,j<H.objs.length→¬ ids j→H'.objs[j]?=H.objs[j]?
 tlen:H.toks.length≤H'.toks.length
 tok:∀ (t p:Nat),H.toks[t]?=some p→H'.toks[t]?=some p
theorem Mods.refl (ids:Nat→Prop) (H:GH):Mods ids H H:=⟨rfl,rfl,Nat.le_refl _,fun _ _ _=>rfl,Nat.le_refl _,fun _ _ h=>h⟩
theorem Mods.trans {ids:Nat→Prop} {H H1 H2:GH} (h:Mods ids H H1) (h':Mods ids H1 H2):Mods ids H H2 :=
 ⟨h'.bo.trans h.bo,h'.bt.trans h.bt,Nat.le_trans h.olen h'.olen,fun j hj hn=>(h'.obj j (Nat.lt_of_lt_of_le hj h.olen) hn).trans (h.obj j hj hn),Nat.le_trans h.tlen h'.tlen,fun t p hp=>h'.tok t p (h.tok t p hp)⟩
theorem Mods.btle {ids:Nat→Prop} {H H':GH} (h:Mods ids H H') (hb:H.bt≤H.toks.length):H'.bt≤H'.toks.length:=by
 rw [h.bt]; exact Nat.le_trans hb h.tlen
theorem Mods.set (H:GH) (i:Nat) (o:GObj):Mods (·=i) H { H with objs:=H.objs.set i o } :=
 ⟨rfl,rfl,by simp,fun j _ hn=>by simp only; rw [List.getElem?_set_ne (by intro e; exact hn e.symm)],Nat.le_refl _,fun _ _ h=>h⟩
theorem Mods.new (ids:Nat→Prop) (H:GH) (o:GObj):Mods ids H (H.newObj o) :=
 ⟨rfl,rfl,by simp [GH.newObj],fun j hj _=>by simp only [GH.newObj]; rw [List.getElem?_append_left hj],Nat.le_refl _,fun _ _ h=>h⟩
theorem obj_set {H:GH} {i:Nat} {o o':GObj} (h:H.objs[i]?=some o):(H.objs.set i o')[i]?=some o':=by
 have:=(List.getElem?_eq_some_iff.1 h).1
 simp [this]
theorem zan {n:Int} (h1 : -9223372036854775808≤n) (h2:n≤9223372036854775807):IntKind.i64.wrap n=n:=by rw [IntKind.wrap_i64]; omega
theorem zh4 {n:Int} (h1:0≤n) (h2:n≤255):IntKind.u8.wrap n=n:=by rw [IntKind.wrap_u8]; omega
def optW {α:Type} (o:Option α) (K:α→Prop):Prop:=∃ v,o=some v∧K v
section
variable {α β:Type}
@[simp] theorem zvF (v:α) (K:α→Prop):optW (some v) K↔K v:=⟨fun ⟨_,h,k⟩=>by injection h with h; exact h ▸ k,fun h=>⟨v,rfl,h⟩⟩
@[simp] theorem zDW (K:α→Prop):optW none K↔False:=⟨fun ⟨_,h,_⟩=>(by cases h),fun h=>False.elim h⟩
theorem optW.mono {o:Option α} {K K':α→Prop} (h:optW o K) (hk:∀ v,K v→K' v):optW o K':=let ⟨v,h1,h2⟩:=h; ⟨v,h1,hk v h2⟩
theorem optW.mk {o:Option α} {v:α} {K:α→Prop} (h:o=some v) (hk:K v):optW o K:=⟨v,h,hk⟩
theorem optW.eq {o:Option α} {v:α} (h:optW o fun r=>r=v):o=some v:=by
 obtain ⟨w,h1,rfl⟩:=h; exact h1
theorem optW.get {o:Option α} {K:α→Prop} (h:optW o K):∃ v,o=some v∧K v:=h
end
def zBy (k:St→Option (GExit × St)) (K:GExit × St→Prop) (p:GExit × St):Prop :=
 match p with
 | (.normal,s)=>optW (k s) K
 | p=>K p
@[simp] theorem zi1 (s:St) (k:St→Option (GExit × St)) (K:GExit × St→Prop):zBy k K (.normal,s)↔optW (k s) K:=.rfl
@[simp] theorem zEE (s:St) (k:St→Option (GExit × St)) (K:GExit × St→Prop):zBy k K (.ret,s)↔K (.ret,s):=.rfl
@[simp] theorem zDX (i:Nat) (s:St) (k:St→Option (GExit × St)) (K:GExit × St→Prop):zBy k K (.exit i,s)↔K (.exit i,s):=.rfl
def zpD (id:Nat) (K:GExit × St→Prop) (p:GExit × St):Prop :=
 match p with
 | (.exit i,s)=>if i=id then K (.normal,s) else K (.exit i,s)
 | p=>K p
@[simp] theorem zyH (id:Nat) (s:St) (K:GExit × St→Prop):zpD id K (.normal,s)↔K (.normal,s):=.rfl
@[simp] theorem zBz (id:Nat) (s:St) (K:GExit × St→Prop):zpD id K (.ret,s)↔K (.ret,s):=.rfl
@[simp] theorem zoJ (id i:Nat) (s:St) (K:GExit × St→Prop):zpD id K (.exit i,s)↔if i=id then K (.normal,s) else K (.exit i,s):=.rfl
def zEF (k:St→Option (GV × GH)) (K:GV × GH→Prop) (p:GExit × St):Prop :=
 match p with
 | (.normal,s) | (.ret,s)=>optW (k s) K
 | _=>False
@[simp] theorem zAP (s:St) (k:St→Option (GV × GH)) (K:GV × GH→Prop):zEF k K (.normal,s)↔optW (k s) K:=.rfl
@[simp] theorem zEG (s:St) (k:St→Option (GV × GH)) (K:GV × GH→Prop):zEF k K (.ret,s)↔optW (k s) K:=.rfl
def zG2 (K:GExit × St→Prop) (s:St):Prop:=K (.normal,s)
@[simp] theorem zEH (K:GExit × St→Prop) (l:List GV) (g:Nat) (H:GH):zG2 K ⟨⟨l,g⟩,H⟩↔K (.normal,⟨⟨l,g⟩,H⟩):=.rfl
theorem zao (r:Option (GExit × St)) (k:St→Option (GExit × St)) (K:GExit × St→Prop):optW (zyb r k) K↔optW r (zBy k K):=by
 cases r with
 | none=>simp
 | some p =>
  obtain ⟨r,s1⟩:=p
  cases r <;> simp
theorem zai (id:Nat) (r:Option (GExit × St)) (K:GExit × St→Prop):optW (ziZ id r) K↔optW r (zpD id K):=by
 cases r with
 | none=>simp
 | some p =>
  obtain ⟨r,s1⟩:=p
  cases r with
  | exit i =>
   simp only [zos,zvF,zoJ]
   split <;> simp
  | normal=>simp
  | ret=>simp
theorem zab (r:Option (GExit × St)) (k:St→Option (GV × GH)) (K:GV × GH→Prop):optW (zmS r k) K↔optW r (zEF k K):=by
 cases r with
 | none=>simp
 | some p =>
  obtain ⟨r,s1⟩:=p
  cases r with
  | exit i=>simp [zmS,zEF]
  | normal=>simp
  | ret=>simp
section
variable {T:Nat→Option IFun}
def zGH (rs:List IRes) (s:St):Option (GV × GH):=(zaB s rs).map fun v=>(v,s.H)
def zGI (rs:List IRes) (H:GH) (s:St):Option (GV × GH):=(zaB s rs).bind fun v=>(zaM H.objs.length H.toks.length 100 v).map fun v=>(v,H)
def zG3 (rs:List IRes) (H:GH) (s:St):Option (GV × GH):=(zaB s rs).bind fun v=>if plain 100 v=true then some (v,H) else none
theorem zag {f:Nat} {F:IFun} (hF:T f=some F) {args:List GV} {H:GH} (hm:F.mode=0) (hn:args.length≤F.nt):ecall T f args H=zmS (erun T F.body ⟨⟨args,0⟩,H⟩) (zGH F.results):=by
 rw [zln hF,if_neg (by omega),if_neg (by omega),if_neg (by omega),if_neg (by omega)]
 rfl
def GH.over (H:GH):GH:={ H with bo:=H.objs.length,bt:=H.toks.length }
@[simp] theorem GH.over_objs (H:GH):H.over.objs=H.objs:=rfl
@[simp] theorem GH.over_toks (H:GH):H.over.toks=H.toks:=rfl
@[simp] theorem zBA (a b n:Nat) (x:Bool):zaM a b (n+1) (.bool x)=some (.bool x):=rfl
@[simp] theorem zDY (a b n:Nat) (k:IntKind) (x:Int):zaM a b (n+1) (.int k x)=some (.int k x):=rfl
@[simp] theorem zDZ (a b n:Nat) (x:ByteArray):zaM a b (n+1) (.str x)=some (.str x):=rfl
@[simp] theorem zzx (a b n:Nat):zaM a b (n+1) .nilptr=some .nilptr:=rfl
@[simp] theorem zAQ (a b n:Nat):zaM a b (n+1) .nilsl=some .nilsl:=rfl
@[simp] theorem zwx (a b n:Nat):zaM a b (n+1) .niliface=some .niliface:=rfl
theorem zbd {f:Nat} {F:IFun} (hF:T f=some F) {args:List GV} {H:GH} (hm:F.mode=1) (hn:args.length≤F.nt):ecall T f args H=zmS (erun T F.body ⟨⟨args,0⟩,H.over⟩) (zGI F.results H):=by
 rw [zln hF,if_neg (by omega),if_neg (by omega),if_pos hm]
 rfl
theorem zdn {f:Nat} {F:IFun} (hF:T f=some F) {args:List GV} {H:GH} (hm:10≤F.mode) (hn:args.length≤F.nt):ecall T f args H=zjh F args H:=by
 rw [zln hF,if_neg (by omega),if_pos hm]
def zeY (v:GV):Option GV:=if v.ok=true then some v else none
theorem zvG (l:List GV) (g:Nat) (H:GH) (t:Nat):zlg ⟨⟨l,g⟩,H⟩ (.slot t)=zeY (zad l t):=rfl
theorem zvH (l:List GV) (g:Nat) (H:GH) (t sz:Nat) (ag:Bool):zlg ⟨⟨l,g⟩,H⟩ (.cell t sz ag)=zd2 ⟨l,g⟩ H sz ag (zbJ t (zad l t)):=rfl
theorem zyI {v:GV} (h:v.ok=true):zeY v=some v:=if_pos h
section
variable (k:IntKind) (n:Int) (a:Nat) (xs ys:List GV) (t:Tag) (s:ByteArray) (v:GV)
@[simp] theorem zBB (b:Bool):zeY (.bool b)=some (.bool b):=rfl
@[simp] theorem zD0:zeY (.int k n)=some (.int k n):=rfl
@[simp] theorem zD1:zeY (.str s)=some (.str s):=rfl
@[simp] theorem zzy:zeY .nilptr=some .nilptr:=rfl
@[simp] theorem zD2 (o:Nat):zeY (.ptr a o)=some (.ptr a o):=rfl
@[simp] theorem zAR:zeY .nilsl=some .nilsl:=rfl
@[simp] theorem zEI:zeY (.sl a xs t)=some (.sl a xs t):=rfl
@[simp] theorem zD3 (b c d:Nat) (e:Bool):zeY (.hsl a b c d e)=some (.hsl a b c d e):=rfl
@[simp] theorem zzz:zeY .nilmap=some .nilmap:=rfl
@[simp] theorem zD4:zeY (.map a)=some (.map a):=rfl
@[simp] theorem zyJ:zeY .nilfunc=some .nilfunc:=rfl
@[simp] theorem zBC:zeY (.func a xs ys)=some (.func a xs ys):=rfl
@[simp] theorem zwy:zeY .niliface=some .niliface:=rfl
@[simp] theorem zAS:zeY (.iface a v)=some (.iface a v):=rfl
@[simp] theorem zD5:zeY (.agg xs)=some (.agg xs):=rfl
end
theorem zm6 (s:St):zaB s []=some (.tup []):=rfl
theorem zrJ (s:St) (a:IRes):zaB s [a]=zlg s a:=by
 unfold zaB
 cases h:zlg s a <;> simp [h]
theorem zrK (s:St) (a b:IRes):zaB s [a,b]=(zlg s a).bind fun x=>(zlg s b).map fun y=>.tup [x,y]:=by
 unfold zaB
 cases h:zlg s a <;> cases h':zlg s b <;> simp [h,h']
theorem zrL (s:St) (a b c:IRes):zaB s [a,b,c]=(zlg s a).bind fun x=>(zlg s b).bind fun y=>(zlg s c).map fun z=>.tup [x,y,z]:=by
 unfold zaB
 cases h:zlg s a <;> cases h':zlg s b <;> cases h'':zlg s c <;> simp [h,h',h'']
theorem zAT (e:Env) (H:GH) (sz:Nat) (ag:Bool) (s g o:Nat):zd2 e H sz ag (.laddr s g o)=zmZ (zad e.s s) g fun cs=>zb2 cs o sz ag:=by
 simp only [zd2,zeP,zmZ]
 generalize zad e.s s=v
 cases v <;> try rfl
 rename_i g1 cs
 by_cases h:g1=g <;> simp [h]
theorem zAU (e:Env) (H:GH) (sz:Nat) (ag:Bool) (i o:Nat):zd2 e H sz ag (.ptr i o)=zpB (H.objs[i]?) fun cs=>zb2 cs o sz ag:=rfl
attribute [simp] zvG zvH zyI zm6 zrJ zrK zrL zAT zAU
@[simp] theorem zEJ (rs:List IRes) (l:List GV) (g:Nat) (H:GH):zGH rs ⟨⟨l,g⟩,H⟩=(zaB ⟨⟨l,g⟩,H⟩ rs).map fun v=>(v,H):=rfl
@[simp] theorem zEK (rs:List IRes) (H0:GH) (l:List GV) (g:Nat) (H:GH):zGI rs H0 ⟨⟨l,g⟩,H⟩=(zaB ⟨⟨l,g⟩,H⟩ rs).bind fun v=>(zaM H0.objs.length H0.toks.length 100 v).map fun v=>(v,H0):=rfl
@[simp] theorem zEL (rs:List IRes) (H0:GH) (l:List GV) (g:Nat) (H:GH):zG3 rs H0 ⟨⟨l,g⟩,H⟩=(zaB ⟨⟨l,g⟩,H⟩ rs).bind fun v=>if plain 100 v=true then some (v,H0) else none:=rfl
end
variable [Facts]
inductive Shape where
 | bool
 | int (k:IntKind)
 | str
 | slice (e:Shape)
 | row (ss:List Shape)
mutual
def Shape.size:Shape→Nat
 | .row ss=>Shape.sizes ss
 | _=>1
def Shape.sizes:List Shape→Nat
 | []=>0
 | s::ss=>s.size+Shape.sizes ss
end
def zpE (P:Program):Nat→List Field→List Shape→Bool
 | o,f::fs,s::ss=>f.offset == o&&P.cellsOf f.type == s.size&&zpE P (o+s.size) fs ss
 | _,[],[]=>true
 | _,_,_=>false
def zb5 (P:Program):Nat→TypeId→Option Shape
 | 0,_=>none
 | n+1,t=>match P.underlying t with
  | some .bool=>some .bool
  | some (.int k)=>some (.int k)
  | some .string=>some .str
  | some (.slice e)=>(zb5 P n e).bind fun s=>if P.cellsOf e=s.size∧0<s.size then some (.slice s) else none
  | some (.struct fs)=>(fs.toList.mapM fun f=>zb5 P n f.type).bind fun ss=>if zpE P 0 fs.toList ss=true∧P.cellsOf t=Shape.sizes ss then some (.row ss) else none
  | some (.array m e)=>(zb5 P n e).bind fun s=>if P.cellsOf e=s.size∧P.cellsOf t=m * s.size then some (.row (List.replicate m s)) else none
  | _=>none
def mkG:Shape→List GV→GV
 | .row _,cs=>.agg cs
 | _,cs=>cs.headD .junk
def zf0:Nat:=140737488351232
inductive Fits:Shape→List GV→Prop
 | bool (b:Bool):Fits .bool [.bool b]
 | int (k:IntKind) (n:Int) (h:k.min≤n∧n≤k.max):Fits (.int k) [.int k n]
 | str (s:ByteArray) (h:s.size≤zf0):Fits .str [.str s]
 | nilsl (e:Shape):Fits (.slice e) [.nilsl]
 | sl (e:Shape) (css:List (List GV)) (h:∀ cs∈css,Fits e cs) (hl:css.length≤maxLen):Fits (.slice e) [.sl e.size (css.map (mkG e)) .imm]
 | rnil:Fits (.row []) []
 | rcons (s:Shape) (ss:List Shape) (a b:List GV) (h:Fits s a) (h':Fits (.row ss) b):Fits (.row (s::ss)) (a++b)
theorem Fits.len {s:Shape} {cs:List GV} (h:Fits s cs):cs.length=s.size:=by
 induction h with
 | rcons s ss a b h h' ih ih'=>simp only [List.length_append,ih,ih',Shape.size,Shape.sizes]
 | _=>rfl
theorem Fits.one {s:Shape} {cs:List GV} (h:Fits s cs):∀ c∈cs,c.one=true∧c.ok=true:=by
 induction h with
 | rnil=>intro c hc; cases hc
 | rcons s ss a b h h' ih ih' =>
  intro c hc
  rcases List.mem_append.1 hc with h | h
  ·exact ih c h
  ·exact ih' c h
 | _=>intro c hc; simp only [List.mem_singleton] at hc; subst hc; exact ⟨rfl,rfl⟩
theorem Fits.cells {s:Shape} {cs:List GV} (h:Fits s cs):(mkG s cs).cells=cs:=by
 cases h <;> rfl
theorem Fits.flat {s:Shape} {cs:List GV} (h:Fits s cs):(mkG s cs).flat=true:=by
 simp only [GV.flat,h.cells,List.all_eq_true]
 exact fun c hc=>(h.one c hc).1
theorem Fits.ok {s:Shape} {cs:List GV} (h:Fits s cs):(mkG s cs).ok=true:=by
 cases h <;> rfl
section
variable {P:Program} {ro:Nat} {W:World} {H:Type} {enc:TypeId × Value→H}
def CRl (K:Ctx) (gs:List GV) (cs:List Value):Prop:=gs.length=cs.length∧∀ (i:Nat) g v,gs[i]?=some g→cs[i]?=some v→VR K g v
theorem CRl.append {K:Ctx} {a b:List GV} {x y:List Value} (h:CRl K a x) (h':CRl K b y):CRl K (a++b) (x++y):=by
 refine ⟨by simp [h.1,h'.1],fun i g v hg hv=>?_⟩
 by_cases hi:i<a.length
 ·rw [List.getElem?_append_left hi] at hg
  rw [List.getElem?_append_left (by rw [← h.1]; exact hi)] at hv
  exact h.2 i g v hg hv
 ·rw [List.getElem?_append_right (by omega)] at hg
  rw [List.getElem?_append_right (by rw [← h.1]; omega),← h.1] at hv
  exact h'.2 _ g v hg hv
theorem CRl.single {K:Ctx} {g:GV} {v:Value} (h:VR K g v):CRl K [g] [v]:=by
 refine ⟨rfl,fun i g' v' hg hv=>?_⟩
 cases i with
 | zero=>simp at hg hv; subst hg; subst hv; exact h
 | succ i=>simp at hg
def zrM (P:Program) (t:TypeId) (d:DataW H):Prop:=∀ n∈d.weights P t,n≤zf0
theorem zf1 {P:Program} {e:TypeId} {n:Nat} {d:DataW H} : ∀ {ds:List (DataW H)},d∈ds→n∈d.weights P e→n∈DataW.weightsAll P e ds
 | x::ds,hd,hn=>by
  rw [DataW.weightsAll]
  rcases List.mem_cons.1 hd with rfl | hd
  ·exact List.mem_append.2 (.inl hn)
  ·exact List.mem_append.2 (.inr (zf1 hd hn))
theorem zhE {P:Program} {n:Nat} {d:DataW H} {t:TypeId} : ∀ {ts:List TypeId} {ds:List (DataW H)} {i:Nat},ts[i]?=some t→ds[i]?=some d→n∈d.weights P t→n∈DataW.weightsEach P ts ds
 | u::ts,x::ds,i,ht,hd,hn=>by
  rw [DataW.weightsEach]
  cases i with
  | zero =>
   simp at ht hd; subst ht; subst hd
   exact List.mem_append.2 (.inl hn)
  | succ i =>
   simp at ht hd
   exact List.mem_append.2 (.inr (zhE ht hd hn))
 | [],_,_,ht,_,_=>by simp at ht
 | _::_,[],_,_,hd,_=>by simp at hd
theorem zrN:∀ (n:Nat) (t:TypeId) (s:Shape),zb5 P n t=some s→∀ (fuel:Nat) (cs:List Value) (x:DataW H × List MemPlace),DataW.trod enc P W 0 (fun _=>true) true fuel t cs=some x→zrM P t x.1 →
 ∃ gs,Fits s gs∧CRl (zbT ro W) gs cs:=by
 intro n
 induction n with
 | zero=>intro t s hs; simp [zb5] at hs
 | succ n ih =>
  intro t s hs fuel cs x hx hLt
  rw [zb5] at hs
  cases hu:P.underlying t with
  | none=>simp [hu] at hs
  | some d =>
   rw [hu] at hs
   cases d <;> simp only [reduceCtorEq] at hs <;> try (cases hs; done)
   case bool =>
    injection hs with hs; subst hs
    obtain ⟨b,rfl,_⟩:=DataW.trod_bool hu hx
    exact ⟨_,.bool b,.single (.bool b)⟩
   case int k =>
    injection hs with hs; subst hs
    obtain ⟨m,rfl,_,hw⟩:=DataW.trod_int hu hx
    simp only [Lit.wf,Bool.and_eq_true,decide_eq_true_eq] at hw
    exact ⟨_,.int k m hw,.single (.int k m)⟩
   case string =>
    injection hs with hs; subst hs
    obtain ⟨m,rfl,rfl,hw⟩:=DataW.trod_string hu hx
    have:=hLt m.data.toList.length (by simp [DataW.weights])
    exact ⟨_,.str m (by simpa using this),.single (.str m)⟩
   case slice e =>
    simp only [Option.bind_eq_some_iff] at hs
    obtain ⟨se,he,hs⟩:=hs
    split at hs
    ·rename_i hsz
     injection hs with hs; subst hs
     rcases DataW.trod_slice hu hx with ⟨rfl,_⟩ | ⟨a,len,cap,elems,rest,m,rfl,rfl,rfl,hb,hl,hm,hlen,hel,hsp,_⟩
     ·exact ⟨_,.nilsl se,.single .nilsl⟩
     ·obtain ⟨hrl,hre⟩:=hsp rfl
      by_cases hc:cap=0
      ·have hl0:len=0:=by omega
       subst hc; subst hl0
       exact ⟨_,.sl se [] (fun x hx=>by cases hx) (Nat.zero_le _),.single (.emp a (.inl rfl))⟩
      ·have first:∃ v0,W.cell? a=some v0:=by
        have h0:∃ y,(W.cells? 0 (a.add 0) (P.cellsOf e)).bind (DataW.trod enc P W 0 (fun _=>true) true m e)=some y:=by
         by_cases hl0:0<len
         ·have:=hel 0 hl0
          rw [Nat.zero_mul,List.getElem?_eq_getElem (by omega)] at this
          exact ⟨_,this⟩
         ·have:=hre 0 (by omega)
          have e0:len=0:=by omega
          rw [e0,Nat.zero_add,Nat.zero_mul,List.getElem?_eq_getElem (by omega)] at this
          exact ⟨_,this⟩
        obtain ⟨y,hy⟩:=h0
        simp only [Option.bind_eq_some_iff] at hy
        obtain ⟨cs0,hcs0,_⟩:=hy
        obtain ⟨_,hcl,hcc⟩:=World.cells?_some hcs0
        have h1:=hcc 0 (by omega)
        rw [List.getElem?_eq_getElem (by omega)] at h1
        exact ⟨_,by simpa [Addr.add] using h1⟩
       obtain ⟨v0,hv0⟩:=first
       have hspot:=World.cell?_spot hv0
       have hblk:a.block<W.heap.size:=by
        simp only [World.cell?] at hv0
        split at hv0
        ·rename_i hh
         by_cases hlt:a.block<W.heap.size
         ·exact hlt
         ·rw [Array.getElem?_eq_none (by omega)] at hh; cases hh
        ·cases hv0
       obtain ⟨b,off,spot⟩:=a
       simp only at hspot hblk
       subst hspot
       have each:∀ i,i<len→∃ gs:List GV,Fits se gs∧∀ (j:Nat) g,gs[j]?=some g→∃ v,W.cell? ⟨b,off+i * se.size+j,none⟩=some v∧VR (zbT ro W) g v:=by
        intro i hi
        have h1:=hel i hi
        rw [List.getElem?_eq_getElem (by omega)] at h1
        simp only [Option.bind_eq_some_iff] at h1
        obtain ⟨csi,hcsi,hti⟩:=h1
        obtain ⟨_,hcl,hcc⟩:=World.cells?_some hcsi
        have hlt':zrM P e (elems[i]).1:=fun n hn=>hLt n (by
         simp only [DataW.weights,hu]
         exact List.mem_cons_of_mem _ (List.mem_append.2 (.inl (zf1 (List.mem_map_of_mem (List.getElem_mem _)) hn))))
        obtain ⟨gs,hf,hr⟩:=ih e se he m csi _ hti hlt'
        refine ⟨gs,hf,fun j g hg=>?_⟩
        have hj:j<gs.length:=(List.getElem?_eq_some_iff.1 hg).1
        have hj2:j<csi.length:=by rw [← hr.1]; exact hj
        refine ⟨csi[j], ?_,hr.2 j g _ hg (List.getElem?_eq_getElem hj2)⟩
        have h2:=hcc j (by omega)
        rw [List.getElem?_eq_getElem hj2,hsz.1] at h2
        rw [← h2]
        congr 1
        simp only [zcw]
       have each':∀ i,∃ gs:List GV,i<len→Fits se gs∧∀ (j:Nat) g,gs[j]?=some g→∃ v,W.cell? ⟨b,off+i * se.size+j,none⟩=some v∧VR (zbT ro W) g v:=by
        intro i
        by_cases hi:i<len
        ·obtain ⟨gs,h⟩:=each i hi; exact ⟨gs,fun _=>h⟩
        ·exact ⟨[],fun h=>absurd h hi⟩
       have hax:=Classical.axiomOfChoice each'
       obtain ⟨gsf,hgs⟩:=hax
       have hxl:((List.range len).map fun i=>mkG se (gsf i)).length=len:=by simp
       have hget:∀ (i:Nat) x,((List.range len).map fun i=>mkG se (gsf i))[i]?=some x→i<len∧x=mkG se (gsf i):=by
        intro i x hx
        have hi:i<len:=by rw [← hxl]; exact (List.getElem?_eq_some_iff.1 hx).1
        rw [List.getElem?_map,List.getElem?_range hi] at hx
        simp at hx
        exact ⟨hi,hx.symm⟩
       have hmm:((List.range len).map gsf).map (mkG se)=(List.range len).map fun i=>mkG se (gsf i):=by rw [List.map_map]; rfl
       refine ⟨_,.sl se ((List.range len).map gsf) (fun x hx=>?_) (by simp; omega),.single ?_⟩
       ·obtain ⟨i,hi,rfl⟩:=List.mem_map.1 hx
        exact (hgs i (List.mem_range.1 hi)).1
       ·rw [hmm]
        have:=VR.sl (K:=zbT ro W) (sz:=se.size) (xs:=(List.range len).map fun i=>mkG se (gsf i)) (tag:=.imm) (b:=b) (off:=off) (cap:=cap) (cv:=fun i j=>(W.cell? ⟨b,off+i * se.size+j,none⟩).getD undef) (by rw [hxl]; exact hl) hm
         (fun x hx=>by
           obtain ⟨i,hi⟩:=List.mem_iff_getElem?.1 hx
           obtain ⟨h1,rfl⟩:=hget i x hi
           have hf:=(hgs i h1).1
           exact ⟨by rw [hf.cells,hf.len],hf.flat⟩)
         (fun i x j c hx hc=>by
           obtain ⟨h1,rfl⟩:=hget i x hx
           obtain ⟨hf,hfc⟩:=hgs i h1
           rw [hf.cells] at hc
           obtain ⟨v,hv,_⟩:=hfc j c hc
           exact ⟨zv3 hblk,by show W.cell? _=_; rw [hv]; rfl⟩)
         (fun i x j c hx hc=>by
           obtain ⟨h1,rfl⟩:=hget i x hx
           obtain ⟨hf,hfc⟩:=hgs i h1
           rw [hf.cells] at hc
           obtain ⟨v,hv,hr⟩:=hfc j c hc
           simp only [hv,Option.getD_some]
           exact hr)
         trivial
        rw [hxl] at this
        exact this
    ·cases hs
   case struct fs =>
    simp only [Option.bind_eq_some_iff] at hs
    obtain ⟨ss,hss,hs⟩:=hs
    split at hs
    ·rename_i hok
     injection hs with hs; subst hs
     obtain ⟨xs,m,rfl,rfl,hcl,hxl,hfl⟩:=DataW.trod_struct hu hx
     have go:∀ (l:List Field) (o:Nat) (ss:List Shape),(∀ f∈l,∃ y,DataW.trod enc P W 0 (fun _=>true) true m f.type ((cs.drop f.offset).take (P.cellsOf f.type))=some y∧zrM P f.type y.1)→l.mapM (fun f=>zb5 P n f.type)=some ss→zpE P o l ss=true→o+Shape.sizes ss=cs.length →
      ∃ gs,Fits (.row ss) gs∧CRl (zbT ro W) gs (cs.drop o):=by
      intro l
      induction l with
      | nil =>
       intro o ss _ hm ho hl
       simp at hm
       subst hm
       simp only [Shape.sizes] at hl
       exact ⟨[],.rnil,by rw [List.drop_of_length_le (by omega)]; exact ⟨rfl,fun i g v hg=>by simp at hg⟩⟩
      | cons f l ihl =>
       intro o ss hall hm ho hl
       rw [List.mapM_cons] at hm
       cases hf:zb5 P n f.type with
       | none=>simp [hf] at hm
       | some s1 =>
        cases hls:l.mapM (fun f=>zb5 P n f.type) with
        | none=>simp [hf,hls] at hm
        | some ss1 =>
         simp [hf,hls] at hm
         subst hm
         simp only [zpE,Bool.and_eq_true,beq_iff_eq] at ho
         obtain ⟨⟨ho1,ho2⟩,ho3⟩:=ho
         simp only [Shape.sizes] at hl
         obtain ⟨y,hy,hly⟩:=hall f (by simp)
         obtain ⟨g1,f1,r1⟩:=ih f.type s1 hf m _ _ hy hly
         obtain ⟨g2,f2,r2⟩:=ihl (o+s1.size) ss1 (fun f' hf'=>hall f' (by simp [hf'])) hls ho3 (by omega)
         rw [ho1,ho2] at r1
         refine ⟨g1++g2,.rcons _ _ _ _ f1 f2, ?_⟩
         have:=r1.append r2
         rw [← List.drop_drop,List.take_append_drop] at this
         exact this
     have hall:∀ f∈fs.toList,∃ y,DataW.trod enc P W 0 (fun _=>true) true m f.type ((cs.drop f.offset).take (P.cellsOf f.type))=some y∧zrM P f.type y.1:=by
      intro f hf
      obtain ⟨i,hi⟩:=List.mem_iff_getElem?.1 hf
      have hi':fs[i]?=some f:=by simpa using hi
      have hlt:i<fs.size:=(Array.getElem?_eq_some_iff.1 hi').1
      have:=hfl i f hi'
      rw [List.getElem?_eq_getElem (by omega)] at this
      refine ⟨_,this,fun n hn=>hLt n ?_⟩
      simp only [DataW.weights,hu]
      exact zhE (i:=i) (t:=f.type) (d:=xs[i].1) (by simp [hi']) (by simp [List.getElem?_eq_getElem (show i<xs.length by omega)]) hn
     obtain ⟨gs,h1,h2⟩:=go fs.toList 0 ss hall hss hok.1 (by rw [hcl,hok.2]; omega)
     exact ⟨gs,h1,by simpa using h2⟩
    ·cases hs
   case array m e =>
    simp only [Option.bind_eq_some_iff] at hs
    obtain ⟨se,he,hs⟩:=hs
    split at hs
    ·rename_i hok
     injection hs with hs; subst hs
     obtain ⟨xs,q,rfl,rfl,hcl,hxl,hfl⟩:=DataW.trod_array hu hx
     have go:∀ k j,j+k=m→∃ gs,Fits (.row (List.replicate k se)) gs∧CRl (zbT ro W) gs (cs.drop (j * se.size)):=by
      intro k
      induction k with
      | zero =>
       intro j hj
       refine ⟨[],.rnil, ?_⟩
       have:j=m:=by omega
       subst this
       rw [List.drop_of_length_le (by rw [hcl,hok.2]; exact Nat.le_refl _)]
       exact ⟨rfl,fun i g v hg=>by simp at hg⟩
      | succ k ihk =>
       intro j hj
       have h1:=hfl j (by omega)
       rw [List.getElem?_eq_getElem (by omega),hok.1] at h1
       have hlt':zrM P e (xs[j]'(by omega)).1:=fun n hn=>hLt n (by
        simp only [DataW.weights,hu]
        exact zf1 (List.mem_map_of_mem (List.getElem_mem _)) hn)
       obtain ⟨g1,f1,r1⟩:=ih e se he q _ _ h1 hlt'
       obtain ⟨g2,f2,r2⟩:=ihk (j+1) (by omega)
       refine ⟨g1++g2,.rcons _ _ _ _ f1 f2, ?_⟩
       have:=r1.append r2
       rw [Nat.add_mul,Nat.one_mul,← List.drop_drop,List.take_append_drop] at this
       exact this
     obtain ⟨gs,h1,h2⟩:=go m 0 (by omega)
     exact ⟨gs,h1,by simpa using h2⟩
    ·cases hs
end
end Go.Sh
namespace Go.Sh
variable [Facts]
open Go.ChangeShapes Go.WideShapes Go.RowKit
inductive ArgsFit:List Shape→List GV→Prop
 | nil:ArgsFit [] []
 | cons {s:Shape} {ss:List Shape} {cs gs:List GV} (h:Fits s cs) (t:ArgsFit ss gs):ArgsFit (s::ss) (mkG s cs::gs)
theorem ArgsFit.oks {ss:List Shape} {gs:List GV} (h:ArgsFit ss gs):oks gs=true:=by
 induction h with
 | nil=>rfl
 | cons h t ih=>rw [zyF,ih,h.ok]; rfl
theorem zvI {α:Type} {e:Shape} {f:α→GV} {p:α→Prop} (he:∀ c,Fits e c→∃ a,mkG e c=f a∧p a) {cs:List GV} (h:Fits (.slice e) cs) :
 ∃ L:List α,Elems e.size (mkG (.slice e) cs) (L.map f)∧(∀ a∈L,p a)∧L.length≤maxLen:=by
 cases h with
 | nilsl=>exact ⟨[],.nil,(fun _ h=>by cases h),Nat.zero_le _⟩
 | sl _ css hx hl =>
  have:∀ l:List (List GV),(∀ c∈l,Fits e c)→∃ L:List α,l.map (mkG e)=L.map f∧(∀ a∈L,p a)∧L.length=l.length:=by
   intro l
   induction l with
   | nil=>intro _; exact ⟨[],rfl,(fun _ h=>by cases h),rfl⟩
   | cons c l ih =>
    intro hl
    obtain ⟨a,h1,h2⟩:=he c (hl c (by simp))
    obtain ⟨L,h3,h4,h5⟩:=ih (fun c' hc'=>hl c' (by simp [hc']))
    refine ⟨a::L,by simp [h1,h3],fun b hb=>?_,by simp [h5]⟩
    rcases List.mem_cons.1 hb with rfl | hb
    ·exact h2
    ·exact h4 b hb
  obtain ⟨L,h1,h2,h3⟩:=this css hx
  exact ⟨L,by show Elems _ (.sl _ _ _) _; rw [h1]; exact .sl _ _,h2,by omega⟩
section
variable {P:Program} {ro:Nat} {W:World} {H:Type} {enc:TypeId × Value→H}
theorem zyK {n:Nat} {t:TypeId} {s:Shape} (hs:zb5 P n t=some s) {b0:Nat} {v:Value} {d:DataW H} {ps:List MemPlace} (hval:Value.okWide P W .any b0 t v) (hd:DataW.Trod enc P W 0 (fun _=>true) true t v d ps) (hlt:zrM P t d) :
 ∃ cs,Fits s cs∧VR (zbT ro W) (mkG s cs) v:=by
 obtain ⟨fuel,hf⟩:=hd
 obtain ⟨gs,h1,h2⟩:=zrN (ro:=ro) n t s hs fuel _ _ hf hlt
 refine ⟨gs,h1, ?_⟩
 have atom:∀ {u:Value},v=u→u.cells = #[u]→gs.length=1→VR (zbT ro W) (gs.headD .junk) v:=by
  intro u hu hc hl
  subst hu
  rw [hc] at h2
  match gs,hl with
  | [g],_=>exact h2.2 0 g v rfl rfl
 cases n with
 | zero=>simp [zb5] at hs
 | succ n =>
  rw [zb5] at hs
  cases hu:P.underlying t with
  | none=>simp [hu] at hs
  | some dd =>
   rw [hu] at hs
   cases dd <;> simp only [reduceCtorEq] at hs <;> try (cases hs; done)
   case bool =>
    injection hs with hs; subst hs
    obtain ⟨b,hb⟩:=okWide_bool hu hval
    exact atom hb rfl h1.len
   case int k =>
    injection hs with hs; subst hs
    obtain ⟨b,hb⟩:=okWide_int hu hval
    exact atom hb rfl h1.len
   case string =>
    injection hs with hs; subst hs
    obtain ⟨b,hb⟩:=okWide_string hu hval
    exact atom hb rfl h1.len
   case slice e =>
    simp only [Option.bind_eq_some_iff] at hs
    obtain ⟨se,he,hs⟩:=hs
    split at hs
    ·injection hs with hs; subst hs
     obtain ⟨a,len,cap,hb⟩:=okWide_slice hu hval
     exact atom hb rfl h1.len
    ·cases hs
   case struct fs =>
    simp only [Option.bind_eq_some_iff] at hs
    obtain ⟨ss,he,hs⟩:=hs
    split at hs
    ·injection hs with hs; subst hs
     obtain ⟨cs,rfl,_⟩:=okWide_struct hu hval
     exact .agg (by simpa [Value.cells] using h2.1) (fun i c v hc hv=>h2.2 i c v hc (by simpa [Value.cells] using hv))
    ·cases hs
   case array m e =>
    simp only [Option.bind_eq_some_iff] at hs
    obtain ⟨ss,he,hs⟩:=hs
    split at hs
    ·injection hs with hs; subst hs
     simp only [Value.okWide,hu] at hval
     obtain ⟨cs,rfl,_⟩:=hval
     exact .agg (by simpa [Value.cells] using h2.1) (fun i c v hc hv=>h2.2 i c v hc (by simpa [Value.cells] using hv))
    ·cases hs
theorem zvJ {n:Nat} : ∀ (ts:List TypeId) (ss:List Shape),ts.mapM (zb5 P n)=some ss→∀ (vs:List Value) (ds:List (DataW H)) (ps:List MemPlace),(∀ (j:Nat) t v,ts[j]?=some t→vs[j]?=some v→∃ b0,Value.okWide P W .any b0 t v) →
 DataW.TrodAll enc P W 0 (fun _=>true) true ts vs ds ps→(∀ n∈DataW.weightsEach P ts ds,n≤zf0)→∃ gs,ArgsFit ss gs∧CRl (zbT ro W) gs vs:=by
 intro ts
 induction ts with
 | nil =>
  intro ss hss vs ds ps _ hd _
  simp at hss; subst hss
  obtain ⟨rfl,_,_⟩:=trodAll_nil hd
  exact ⟨[],.nil,rfl,fun i g v hg=>by simp at hg⟩
 | cons t ts ih =>
  intro ss hss vs ds ps hok hd hlt
  rw [List.mapM_cons] at hss
  cases hs:zb5 P n t with
  | none=>simp [hs] at hss
  | some s =>
   cases hts:ts.mapM (zb5 P n) with
   | none=>simp [hs,hts] at hss
   | some ss' =>
    simp [hs,hts] at hss
    subst hss
    obtain ⟨v,vs',d,ds',p,q,rfl,rfl,rfl,h1,h2⟩:=trodAll_cons hd
    obtain ⟨b0,hv⟩:=hok 0 t v rfl rfl
    obtain ⟨cs,c1,c2⟩:=zyK (ro:=ro) hs hv h1 (fun n hn=>hlt n (by rw [DataW.weightsEach]; exact List.mem_append.2 (.inl hn)))
    obtain ⟨gs,g1,g2⟩:=ih ss' hts vs' ds' q (fun j t' v' ht hv'=>hok (j+1) t' v' (by simpa using ht) (by simpa using hv')) h2 (fun n hn=>hlt n (by rw [DataW.weightsEach]; exact List.mem_append.2 (.inr hn)))
    exact ⟨_,.cons c1 g1,(CRl.single c2).append g2⟩
theorem zlv (hl:laidOutB P=true) {W':World} {sp:Nat→Bool} : ∀ (ts:List TypeId),ts.all (fun t=>P.readableRec t&&decide (t<P.types.size))=true→∀ (vs:List Value) (ds:List (DataW H)) (ps:List MemPlace),
 DataW.TrodAll enc P W 0 (fun _=>true) true ts vs ds ps→(∀ p∈ps,W.sameAt W' p)→(∀ p∈ps,sp p.block=true)→DataW.TrodAll enc P W' 0 sp true ts vs ds ps:=by
 intro ts
 induction ts with
 | nil =>
  intro _ vs ds ps h _ _
  obtain ⟨rfl,rfl,rfl⟩:=trodAll_nil h
  rfl
 | cons t ts ih =>
  intro ha vs ds ps h hsame hsp
  simp only [List.all_cons,Bool.and_eq_true,decide_eq_true_eq] at ha
  obtain ⟨v,vs',d,ds',p,q,rfl,rfl,rfl,h1,h2⟩:=trodAll_cons h
  exact ⟨p,q,WideElems.Trod_stays hl ha.1.1 ha.1.2 h1 (fun x hx=>hsame x (by simp [hx])) (fun x hx=>hsp x (by simp [hx])),ih ha.2 vs' ds' q h2 (fun x hx=>hsame x (by simp [hx])) (fun x hx=>hsp x (by simp [hx])),rfl⟩
variable {T:Nat→Option IFun}
theorem zm7 (hm:P.follows .mixedOrders=true) (hT:zcF P T) (hl:laidOutB P=true) {fid:FuncId} {F:IFun} (hF:T fid=some F) (h10:F.mode<10) {f:Func} {s:ChangeSpec} {ss:List Shape} {n:Nat} {tb:TypeId}
 (hread:f.params.toList.all (fun t=>P.readableRec t&&decide (t<P.types.size))=true)
 (hshape:f.params.toList.mapM (zb5 P n)=some ss) (hres:f.resultTypes = #[tb]) (hb:P.underlying tb=some .bool) (hvars:s.vars=[])
 {apart:Bool} {base:Nat} {args:Array Value} {ds gs:List (DataW H)} {before:List MemPlace}
 (hfn:s.fn H (ds++gs)={ results:=[.lit (.bool true)],args:=ds })
 (law:∀ gargs,ArgsFit ss gargs→∃ H',ecall T fid gargs (znn P.globals.size)=some (.bool true,H'))
 (hval:∀ (j:Nat) t v,f.params[j]?=some t→args[j]?=some v→Value.okWide P W .any base t v)
 (hD:∀ w':World,(∀ b,b<W.heap.size→w'.heap[b]?=W.heap[b]?)→Facts.D w')
 (hW:DataW.Whole enc P f.params.toList s.vars apart W args.toList ds gs before) (hlt:∀ n∈DataW.weightsEach P f.params.toList ds,n≤zf0) :
 Calls P fid args W fun e W'=>∃ v,e=.returned v∧s.post enc P f apart true false false W args v W':=by
 have hW':=hW
 obtain ⟨p,q,hA,hV,rfl,hfz,hnd⟩:=hW
 rw [hvars] at hV
 obtain ⟨rfl,rfl⟩:=trodVars_none hV
 obtain ⟨gargs,h1,h2⟩:=zvJ (ro:=P.globals.size) f.params.toList ss hshape args.toList ds p (fun j t v ht hv=>⟨base,hval j t v (by simpa using ht) (by simpa using hv)⟩) hA hlt
 obtain ⟨H',hcall⟩:=law gargs h1
 have hcr:CR (zbT P.globals.size W) gargs args:=⟨by simpa using h2.1,fun i c v hc hv=>h2.2 i c v hc (by simpa using hv)⟩
 refine (zfI hm hl hT hF h10 hcall h1.oks (zyW P.globals.size W hD) hcr).mono fun e W' he=>?_
 obtain ⟨rv,K',rfl,rfl,hr',hv',x⟩:=he
 have hbel:=zoQ x
 cases hv'
 refine ⟨_,rfl, ?_⟩
 have hlt:∀ y∈p,y.block<W.heap.size:=fun y hy=>by simpa using hW'.lt y (by simp [hy])
 refine ⟨ds,_,_,[],p,[],hW', ?_, ?_, ?_,World.keptBut_mono (fun y hy=>hy.elim) (hbel.frame fun _=>False),fun h=>by cases h⟩
 ·rw [hfn,hres]
  exact trodAll_mk1 (shut_bool hb true)
 ·rw [hfn]
  exact zlv hl _ hread _ _ _ hA (fun y hy=>hbel.same (hlt y hy)) (fun y hy=>by simpa using hlt y hy)
 ·rw [hfn,hvars]; rfl
end
end Go.Sh
namespace Go.Sh
def GV.boxy:GV→Bool
 | .lbox .. | .siter .. => true
 | _=>false
def wr:ICode→List Nat
 | .region ops=>ops.filterMap (·.dst)
 | .seq a b | .cond _ a b=>wr a++wr b
 | .block _ a | .loop a=>wr a
 | _=>[]
def Prim.st:Prim→Bool
 | .store _ | .next=>true
 | _=>false
def zpF:ICode→Bool
 | .region ops=>ops.all (fun o=>!o.prim.st)
 | .seq a b | .cond _ a b=>zpF a&&zpF b
 | .block _ a | .loop a=>zpF a
 | _=>true
def FrW (cl:Bool) (ws:List Nat) (l0 l:List GV):Prop:=∀ t,ws.contains t=false→(cl || !(zad l0 t).boxy)=true→zad l t=zad l0 t
abbrev Fr (c:ICode) (l0 l:List GV):Prop:=FrW (zpF c) (wr c) l0 l
theorem FrW.refl (cl:Bool) (ws:List Nat) (l:List GV):FrW cl ws l l:=fun _ _ _=>rfl
theorem FrW.trans {cl:Bool} {ws:List Nat} {a b c:List GV} (h:FrW cl ws a b) (h':FrW cl ws b c):FrW cl ws a c:=fun t h1 h2=>by
 have e:=h t h1 h2
 rw [h' t h1 (by rw [e]; exact h2),e]
theorem FrW.mono {cl cl':Bool} {ws ws':List Nat} {a b:List GV} (h:FrW cl ws a b) (hc:cl'=true→cl=true) (hw:∀ t,t∈ws→t∈ws'):FrW cl' ws' a b:=fun t h1 h2=>h t (by
 rw [List.contains_eq_mem,decide_eq_false_iff_not] at *
 exact fun hm=>h1 (hw t hm)) (by
 rw [Bool.or_eq_true] at *
 exact h2.imp hc id)
theorem Fr.get {c:ICode} {l0 l:List GV} (hf:Fr c l0 l) (t:Nat) (h1:(wr c).contains t=false) {v:GV} (h:zad l0 t=v) (hv:(zpF c || !v.boxy)=true):zad l t=v:=(hf t h1 (h ▸ hv)).trans h
theorem FrW.lput {cl:Bool} {ws:List Nat} {a b:List GV} (h:FrW cl ws a b) {t:Nat} (ht:t∈ws) (v:GV):FrW cl ws a (lput b t v):=fun u h1 h2=>by
 rw [zal,if_neg]
 ·exact h u h1 h2
 ·rintro rfl
  rw [List.contains_eq_mem,decide_eq_false_iff_not] at h1
  exact h1 ht
theorem FrW.box {cl:Bool} {ws:List Nat} {a b:List GV} (h:FrW cl ws a b) (hc:cl=false) {t:Nat} (hb:(zad b t).boxy=true) (v:GV):FrW cl ws a (Go.Sh.lput b t v):=fun u h1 h2=>by
 rw [zal,if_neg]
 ·exact h u h1 h2
 ·rintro rfl
  have:=h u h1 h2
  rw [hc] at h2
  rw [this] at hb
  rw [hb] at h2; cases h2
theorem zyL {call:Nat→List GV→GH→Option (GV × GH)} {p:Prim} {args:List GV} {e:Env} {H:GH} {f:Eff} (h:zas call p args e H=some f):∀ s v,f.box=some (s,v)→(zad e.s s).boxy=true:=by
 intro s v hb
 cases p <;> simp only [zas] at h
 case store =>
  split at h
  ·split at h
   ·split at h
    ·rename_i s' g off
     simp only [Option.bind_eq_some_iff,Option.map_eq_some_iff] at h
     obtain ⟨cs,h1,cs',_,rfl⟩:=h
     injection hb with hb; injection hb with hb _; subst hb
     unfold zeP at h1
     split at h1
     ·rename_i h2; rw [h2]; rfl
     ·cases h1
    ·split at h
     ·split at h
      ·simp only [Option.map_eq_some_iff] at h
       obtain ⟨_,_,rfl⟩:=h; cases hb
      ·cases h
     ·split at h
      ·simp only [Option.map_eq_some_iff] at h
       obtain ⟨_,_,rfl⟩:=h; cases hb
      ·cases h
     ·cases h
    ·cases h
   ·cases h
  ·cases h
 case next =>
  split at h
  ·split at h
   ·rename_i h2
    split at h
    ·split at h
     ·injection h with h; subst h
      injection hb with hb; injection hb with hb _; subst hb
      rw [h2]; rfl
     ·injection h with h; subst h; cases hb
    ·cases h
   ·cases h
  ·cases h
 all_goals
  first
  | (simp only [Option.map_eq_some_iff] at h; obtain ⟨_,_,rfl⟩:=h; cases hb; done)
  | (split at h <;> first | (injection h with h; subst h; cases hb; done) | (cases h; done) | (simp only [Option.map_eq_some_iff] at h; obtain ⟨_,_,rfl⟩:=h; cases hb; done))
  | (split at h <;> try split at h) <;> first | (injection h with h; subst h; cases hb; done) | (cases h; done) | (simp only [Option.map_eq_some_iff] at h; obtain ⟨_,_,rfl⟩:=h; cases hb; done)
theorem zvK {call:Nat→List GV→GH→Option (GV × GH)} {p:Prim} {args:List GV} {e:Env} {H:GH} {f:Eff} (h:zas call p args e H=some f) (hp:p.st=false):f.box=none:=by
 cases p <;> simp only [zas] at h
 case store=>cases hp
 case next=>cases hp
 all_goals
  first
  | (simp only [Option.map_eq_some_iff] at h; obtain ⟨_,_,rfl⟩:=h; rfl)
  | (split at h <;> first | (injection h with h; subst h; rfl) | (cases h; done) | (simp only [Option.map_eq_some_iff] at h; obtain ⟨_,_,rfl⟩:=h; rfl))
  | (split at h <;> try split at h) <;> first | (injection h with h; subst h; rfl) | (cases h; done) | (simp only [Option.map_eq_some_iff] at h; obtain ⟨_,_,rfl⟩:=h; rfl)
theorem zD6 {call:Nat→List GV→GH→Option (GV × GH)} {o:IOp} {s s':St} (h:gop call o s=some s') {cl:Bool} {ws:List Nat} (hc:cl=true→o.prim.st=false) (hw:∀ t,o.dst=some t→t∈ws) {l0:List GV} (hf:FrW cl ws l0 s.e.s):FrW cl ws l0 s'.e.s:=by
 unfold gop at h
 split at h
 ·cases h
 ·injection h with h; subst h
  cases hd:o.dst with
  | none=>exact hf
  | some t=>exact hf.lput (hw t hd) _
 ·split at h
  ·simp only [Option.map_eq_some_iff] at h
   obtain ⟨f,h1,rfl⟩:=h
   have hb:FrW cl ws l0 (s.e.box f.box).s:=by
    cases hx:f.box with
    | none=>exact hf
    | some p =>
     cases hcl:cl with
     | true =>
      have:=zvK h1 (hc hcl)
      rw [hx] at this; cases this
     | false=>rw [hcl] at hf; exact hf.box rfl (zyL h1 p.1 p.2 hx) _
   show FrW cl ws l0 ((s.e.box f.box).put o.dst f.v).s
   cases hd:o.dst with
   | none=>exact hb
   | some t=>exact hb.lput (hw t hd) _
  ·cases h
theorem zvL {call:Nat→List GV→GH→Option (GV × GH)} {cl:Bool} {ws:List Nat} {l0:List GV} : ∀ (ops:List IOp) {s s':St},zbO call ops s=some s'→(cl=true→ops.all (fun o=>!o.prim.st)=true)→(∀ t,t∈ops.filterMap (·.dst)→t∈ws)→FrW cl ws l0 s.e.s→FrW cl ws l0 s'.e.s
 | [],s,s',h,_,_,hf=>by simp only [zbO,Option.some.injEq] at h; subst h; exact hf
 | o::l,s,s',h,hc,hw,hf=>by
  simp only [zbO,Option.bind_eq_some_iff] at h
  obtain ⟨s1,h1,h2⟩:=h
  simp only [List.all_cons,Bool.and_eq_true,Bool.not_eq_true'] at hc
  exact zvL l h2 (fun h=>(hc h).2) (fun t ht=>hw t (by simp only [List.mem_filterMap,List.mem_cons] at *; obtain ⟨a,ha,hb⟩:=ht; exact ⟨a,.inr ha,hb⟩)) (zD6 h1 (fun h=>(hc h).1) (fun t ht=>hw t (by simp [ht])) hf)
theorem zyM (T:Nat→Option IFun) {cl:Bool} {ws:List Nat} {l0:List GV} : ∀ n c s r s',zaq T n c s=some (r,s')→(cl=true→zpF c=true)→(∀ t,t∈wr c→t∈ws)→FrW cl ws l0 s.e.s→FrW cl ws l0 s'.e.s:=by
 intro n
 induction n with
 | zero=>intro c s r s' h; simp [zaq] at h
 | succ n ih =>
  intro c s r s' h hc hw hf
  cases c with
  | skip=>simp only [zaq,Option.some.injEq,Prod.mk.injEq] at h; obtain ⟨_,rfl⟩:=h; exact hf
  | exit=>simp only [zaq,Option.some.injEq,Prod.mk.injEq] at h; obtain ⟨_,rfl⟩:=h; exact hf
  | bump=>simp only [zaq,Option.some.injEq,Prod.mk.injEq] at h; obtain ⟨_,rfl⟩:=h; exact hf
  | ret=>simp only [zaq,Option.some.injEq,Prod.mk.injEq] at h; obtain ⟨_,rfl⟩:=h; exact hf
  | trap=>simp [zaq] at h
  | region ops =>
   simp only [zaq,Option.map_eq_some_iff,Prod.mk.injEq] at h
   obtain ⟨s1,h1,_,rfl⟩:=h
   exact zvL ops h1 hc hw hf
  | seq a b =>
   simp only [wr,List.mem_append] at hw
   simp only [zpF,Bool.and_eq_true] at hc
   simp only [zaq] at h
   split at h
   ·rename_i s1 h1
    exact ih _ _ _ _ h (fun h=>(hc h).2) (fun t ht=>hw t (.inr ht)) (ih _ _ _ _ h1 (fun h=>(hc h).1) (fun t ht=>hw t (.inl ht)) hf)
   ·exact ih _ _ _ _ h (fun h=>(hc h).1) (fun t ht=>hw t (.inl ht)) hf
  | cond c a b =>
   simp only [wr,List.mem_append] at hw
   simp only [zpF,Bool.and_eq_true] at hc
   simp only [zaq] at h
   split at h
   ·exact ih _ _ _ _ h (fun h=>(hc h).1) (fun t ht=>hw t (.inl ht)) hf
   ·exact ih _ _ _ _ h (fun h=>(hc h).2) (fun t ht=>hw t (.inr ht)) hf
   ·cases h
  | block id a =>
   simp only [zaq] at h
   split at h
   ·rename_i id' s1 h1
    split at h <;> (injection h with h; injection h with _ h; subst h; exact ih _ _ _ _ h1 hc hw hf)
   ·exact ih _ _ _ _ h hc hw hf
  | loop a =>
   simp only [zaq] at h
   split at h
   ·rename_i s1 h1
    exact ih _ _ _ _ h hc hw (ih _ _ _ _ h1 hc hw hf)
   ·exact ih _ _ _ _ h hc hw hf
section
variable {T:Nat→Option IFun}
theorem zoK {c:ICode} {s s':St} {r:GExit} (h:erun T c s=some (r,s')):Fr c s.e.s s'.e.s:=by
 obtain ⟨n,hn⟩:=erun_iff.1 h
 exact zyM T n c s r s' hn (fun h=>h) (fun _ h=>h) (.refl _ _ _)
def zBD (Inv:List GV→Nat→GH→Prop) (K:GExit × St→Prop) (r:GExit × St):Prop :=
 match r with
 | (.normal,⟨⟨l,g⟩,H⟩)=>Inv l g H
 | r=>K r
@[simp] theorem zAV (Inv:List GV→Nat→GH→Prop) (K:GExit × St→Prop) (l:List GV) (g:Nat) (H:GH):zBD Inv K (.normal,⟨⟨l,g⟩,H⟩)↔Inv l g H:=.rfl
@[simp] theorem zEM (Inv:List GV→Nat→GH→Prop) (K:GExit × St→Prop) (s:St):zBD Inv K (.ret,s)↔K (.ret,s):=.rfl
@[simp] theorem zD7 (Inv:List GV→Nat→GH→Prop) (K:GExit × St→Prop) (i:Nat) (s:St):zBD Inv K (.exit i,s)↔K (.exit i,s):=.rfl
theorem zcG {L:ICode} {K:GExit × St→Prop} {l0:List GV} (Inv:Nat→List GV→Nat→GH→Prop)
 (hbody:∀ m l g H,Inv m l g H→Fr L l0 l→optW (erun T L ⟨⟨l,g⟩,H⟩) (zBD (fun l' g' H'=>∃ m',m'<m∧Inv m' l' g' H') fun r=>Fr L l0 r.2.e.s→K r)) :
 ∀ m l g H,Inv m l g H→Fr L l0 l→optW (erun T (.loop L) ⟨⟨l,g⟩,H⟩) K:=by
 intro m
 induction m using Nat.strongRecOn with
 | ind m ih =>
  intro l g H hi hf
  rw [zam,zao]
  obtain ⟨⟨r,s'⟩,h1,h2⟩:=hbody m l g H hi hf
  refine ⟨(r,s'),h1, ?_⟩
  have hf':Fr L l0 s'.e.s:=hf.trans (zoK h1)
  obtain ⟨⟨l',g'⟩,H'⟩:=s'
  cases r with
  | normal =>
   obtain ⟨m',h3,h4⟩:=h2
   exact ih m' h3 l' g' H' h4 hf'
  | exit i=>exact h2 hf'
  | ret=>exact h2 hf'
def Fr0 (ws:List Nat) (l0 l:List GV):Prop:=∀ t,ws.contains t=false→zad l t=zad l0 t
theorem Fr0.lput {ws:List Nat} {a b:List GV} (h:Fr0 ws a b) {t:Nat} (ht:t∈ws) (v:GV):Fr0 ws a (lput b t v):=fun u h1=>by
 rw [zal,if_neg]
 ·exact h u h1
 ·rintro rfl
  rw [List.contains_eq_mem,decide_eq_false_iff_not] at h1
  exact h1 ht
section
variable {T:Nat→Option IFun}
end
def zoL {α:Type} (o:Option GObj) (f:Bool→List Leaf→List (GV × GV)→Option α):Option α :=
 match o with
 | some (.map a l e)=>f a l e
 | _=>none
@[simp] theorem zBE {α:Type} (a:Bool) (l:List Leaf) (e:List (GV × GV)) (f:Bool→List Leaf→List (GV × GV)→Option α):zoL (some (.map a l e)) f=f a l e:=rfl
def zAW (z:GV) (ok:Bool) (r:Option GV):GV:=if ok then .tup [r.getD z,.bool r.isSome] else r.getD z
@[simp] theorem zGo (z:GV) (r:Option GV):zAW z false r=r.getD z:=rfl
@[simp] theorem zGp (z:GV) (r:Option GV):zAW z true r=.tup [r.getD z,.bool r.isSome]:=rfl
def zAX (g:Nat) (v:GV) (o:Option GH):Option Eff:=o.map fun H=>⟨v,none,H,g⟩
@[simp] theorem zBF (g:Nat) (v:GV) (H:GH):zAX g v (some H)=some ⟨v,none,H,g⟩:=rfl
section
variable {call:Nat→List GV→GH→Option (GV × GH)} {l:List GV} {g:Nat} {H:GH}
theorem zrO (ag:Bool) (ls:List Leaf):zas call (.mkmap ag ls) [] ⟨l,g⟩ H=some ⟨.map H.objs.length,none,H.newObj (.map ag ls []),g⟩:=rfl
theorem zrP (ag:Bool) (ls:List Leaf) (z:GV) (ok:Bool) (m k:GV):zas call (.mlook ag ls z ok) [m,k] ⟨l,g⟩ H=zcr ((zfP H ag ls m k).map (zAW z ok)) g H:=by
 simp only [zas,zcr,Option.map_map]; rfl
theorem zvM (ag:Bool) (ls:List Leaf) (m k v:GV):zas call (.mset ag ls) [m,k,v] ⟨l,g⟩ H=zAX g .junk (zdE H ag ls m k v):=rfl
theorem zvN (ag:Bool) (ls:List Leaf) (m k:GV):zas call (.mdel ag ls) [m,k] ⟨l,g⟩ H=zAX g (.tup []) (zlf H ag ls m k):=rfl
theorem zvO (ag:Bool) (ls:List Leaf) (k:GV):zfP H ag ls .nilmap k=if zaC ag ls k=true then some none else none:=rfl
theorem zvP (ag:Bool) (ls:List Leaf) (id:Nat) (k:GV):zfP H ag ls (.map id) k=zoL (H.objs[id]?) fun ag' ls' es=>if ag'=ag∧ls'=ls∧zaC ag ls k=true then some (za5 es k) else none:=by
 simp only [zfP,zoL]
 cases H.objs[id]? with
 | none=>rfl
 | some o=>cases o <;> rfl
theorem zvQ (ag:Bool) (ls:List Leaf) (id:Nat) (k v:GV):zbi H ag ls (.map id) k v=zoL (H.objs[id]?) fun ag' ls' es=>if ag'=ag∧ls'=ls∧zaC ag ls k=true∧v.ok=true∧H.bo≤id then some { H with objs:=H.objs.set id (.map ag ls (zav es k v)) } else none:=by
 simp only [zbi,zoL]
 cases H.objs[id]? with
 | none=>rfl
 | some o=>cases o <;> rfl
theorem zyN (ag:Bool) (ls:List Leaf) (m k:GV) (sz:Nat) (xs:List GV) (tag:Tag):zdE H ag ls m k (.sl sz xs tag)=zbi H ag ls m k (.sl sz xs tag):=rfl
theorem zoM (ag:Bool) (ls:List Leaf) (m k:GV):zdE H ag ls m k .nilsl=zbi H ag ls m k .nilsl:=rfl
theorem zrQ (ag:Bool) (ls:List Leaf) (m k:GV) (b:Bool):zdE H ag ls m k (.bool b)=zbi H ag ls m k (.bool b):=rfl
theorem zvR (ag:Bool) (ls:List Leaf) (m k:GV) (t:IntKind) (n:Int):zdE H ag ls m k (.int t n)=zbi H ag ls m k (.int t n):=rfl
theorem zvS (ag:Bool) (ls:List Leaf) (m k:GV) (cs:List GV):zdE H ag ls m k (.agg cs)=zbi H ag ls m k (.agg cs):=rfl
theorem zvT (ag:Bool) (ls:List Leaf) (m k:GV) (id off len sz:Nat) (x:Bool):zdE H ag ls m k (.hsl id off len sz x)=(zaW H [.hsl id off len sz x]).bind fun r=>zbi r.2 ag ls m k r.1:=rfl
theorem zvU (ag:Bool) (ls:List Leaf) (id:Nat) (k:GV):zlf H ag ls (.map id) k=zoL (H.objs[id]?) fun ag' ls' es=>if ag'=ag∧ls'=ls∧zaC ag ls k=true∧H.bo≤id then some { H with objs:=H.objs.set id (.map ag ls (zgp es k)) } else none:=by
 simp only [zlf,zoL]
 cases H.objs[id]? with
 | none=>rfl
 | some o=>cases o <;> rfl
theorem zvV (x:GV):zas call .boxI [x] ⟨l,g⟩ H=boxK x.ok ⟨.el x.cells 0,none,H,g⟩:=rfl
theorem zeZ (ty sz bytes:Nat) (x y:GV):zas call (.appendN ty sz bytes) [x,y] ⟨l,g⟩ H=zhS (zbh H ty sz bytes x y) g:=rfl
theorem zc1 (ty sz bytes:Nat) (x y:GV):zas call (.appendT ty sz bytes) [x,y] ⟨l,g⟩ H=zhS ((zb1 H ty sz bytes x y).map fun r=>(r.1,{ H with toks:=r.2 })) g:=by
 simp only [zas,zhS,Option.map_map]; rfl
theorem zkt (x:GV):zas call .loadF [x] ⟨l,g⟩ H=zhS (zgq H x) g:=rfl
theorem zoN (sz:Nat) (z:GV) (args:List GV):zas call (.clearR sz z) args ⟨l,g⟩ H=zhS (zfG H sz z args) g:=rfl
def zD8 (n sz:Nat) (cs:List GV) (off:Nat):Option GV:=if 0<sz∧off+n * sz≤cs.length∧((cs.drop off).take (n * sz)).all GV.one=true∧n≤maxLen then some (.sl sz (zbc sz n (cs.drop off)) .exact) else none
theorem zrR (n sz:Nat) (cs:List GV) (off:Nat):zas call (.slarr n sz) [.el cs off] ⟨l,g⟩ H=zcr (zD8 n sz cs off) g H:=rfl
end
attribute [simp] zrO zrP zvM zvN zvO zvP zvQ zyN zoM zrQ zvR zvS zvT zvU zvV zrR zeZ zc1 zoN zkt
def Holds:List (Nat × GV)→List GV→Prop
 | [],_=>True
 | p::r,l=>zad l p.1=p.2∧Holds r l
@[simp] theorem zaj (l:List GV):Holds [] l↔True:=.rfl
@[simp] theorem zah (t:Nat) (v:GV) (r:List (Nat × GV)) (l:List GV):Holds ((t,v)::r) l↔zad l t=v∧Holds r l:=.rfl
theorem Holds.put {t:Nat} {v:GV} : ∀ {r:List (Nat × GV)} {l:List GV},(∀ p∈r,p.1≠t)→Holds r l→Holds r (lput l t v)
 | [],_,_,_=>trivial
 | p::r,l,h,hh=>⟨by rw [zal,if_neg (h p (by simp))]; exact hh.1,Holds.put (fun q hq=>h q (by simp [hq])) hh.2⟩
def zhF (c b I N d:Nat) (B:ICode):ICode :=
 .seq (.region [⟨some c,none,.bin .lss,[.slot I,.slot N],none⟩])
  (.seq (.cond (.slot c) .skip (.exit b)) (.seq B (.region [⟨some d,none,.bin .add,[.slot I,.val (.int .i64 1)],none⟩,⟨some I,none,.id,[.slot d],none⟩])))
theorem zau {A:Type} (slots:Nat→A→List (Nat × GV)) (P:Nat→A→Nat→GH→Prop) {c b I N d:Nat} {B L:ICode} {K:GExit × St→Prop} {l0:List GV} {n:Nat} (hL:L=zhF c b I N d B) (hn:(n:Int)≤9223372036854775807)
 (hne:c≠I∧c≠N∧d≠I∧d≠N∧I≠N) (hw:(wr B).contains I=false∧(wr B).contains N=false)
 (hs:∀ i a,∀ p∈slots i a,p.1≠c∧p.1≠d∧p.1≠I)
 (hbody:∀ i a l g H,i<n→P i a g H→Holds (slots i a) l→Fr L l0 l→zad l I=.int .i64 i →
   optW (erun T B ⟨⟨l,g⟩,H⟩) (zBD (fun l' g' H'=>Fr B l l'→∃ a',P (i+1) a' g' H'∧Holds (slots (i+1) a') l') fun r=>Fr L l0 r.2.e.s→K r))
 (hexit:∀ a l g H,P n a g H→Holds (slots n a) l→Fr L l0 l→K (.exit b,⟨⟨l,g⟩,H⟩)) :
 ∀ i a l g H,i≤n→P i a g H→Holds (slots i a) l→Fr L l0 l→zad l I=.int .i64 i→zad l N=.int .i64 n→optW (erun T (.loop L) ⟨⟨l,g⟩,H⟩) K:=by
 obtain ⟨e1,e2,e3,e4,e5⟩:=hne
 have hc:c∈wr L:=by rw [hL]; simp [zhF,wr]
 have hd:d∈wr L:=by rw [hL]; simp [zhF,wr]
 have hII:I∈wr L:=by rw [hL]; simp [zhF,wr]
 have hBc:zpF L=true→zpF B=true:=fun h=>by rw [hL] at h; simp [zhF,zpF] at h; exact h.2.1
 have hB:∀ t,t∈wr B→t∈wr L:=fun t ht=>by rw [hL]; simp [zhF,wr]; right; left; exact ht
 intro i
 generalize hk:n - i=k
 induction k generalizing i with
 | zero =>
  intro a l g H hi hP hh hf hI hN
  obtain rfl:i=n:=by omega
  rw [zam]
  rw [hL]
  simp [zhF,hI,hN]
  exact hexit a _ g H hP (hh.put fun p hp=>(hs _ _ p hp).1) (hf.lput hc _)
 | succ k ih =>
  intro a l g H hi hP hh hf hI hN
  have hlt:i<n:=by omega
  have hwr:IntKind.i64.wrap ((i:Int)+1)=(i:Int)+1:=zan (by omega) (by omega)
  rw [zam,zao]
  have hrun:∀ K',optW (erun T B ⟨⟨lput l c (.bool true),g⟩,H⟩) (zBy (fun s=>erun T (.region [⟨some d,none,.bin .add,[.slot I,.val (.int .i64 1)],none⟩,⟨some I,none,.id,[.slot d],none⟩]) s) K')→optW (erun T L ⟨⟨l,g⟩,H⟩) K':=by
   intro K' hk
   rw [hL]
   have hlti:(i:Int)<n:=by omega
   simp [zhF,hI,hN,hlt]
   rw [zao]
   exact hk
  apply hrun
  have hI1:zad (lput l c (.bool true)) I=.int .i64 i:=by rw [zal,if_neg (Ne.symm e1)]; exact hI
  have hN1:zad (lput l c (.bool true)) N=.int .i64 n:=by rw [zal,if_neg (Ne.symm e2)]; exact hN
  have hb:=hbody i a (lput l c (.bool true)) g H hlt hP (hh.put fun p hp=>(hs _ _ p hp).1) (hf.lput hc _) hI1
  obtain ⟨⟨r,s'⟩,h1,h2⟩:=hb
  refine ⟨(r,s'),h1, ?_⟩
  have h3:=zoK h1
  have hfB:Fr L l0 s'.e.s:=(hf.lput hc _).trans (h3.mono hBc hB)
  obtain ⟨⟨l',g'⟩,H'⟩:=s'
  cases r with
  | exit j=>exact h2 hfB
  | ret=>exact h2 hfB
  | normal =>
   have hI2:zad l' I=.int .i64 i:=(h3 I hw.1 (by rw [hI1]; simp [GV.boxy])).trans hI1
   have hN2:zad l' N=.int .i64 n:=(h3 N hw.2 (by rw [hN1]; simp [GV.boxy])).trans hN1
   obtain ⟨a',h5,h6⟩:=h2 h3
   rw [zi1]
   simp [hI2,hwr]
   refine ih (i+1) (by omega) a' _ g' H' (by omega) h5 ((h6.put fun p hp=>(hs _ _ p hp).2.1).put fun p hp=>(hs _ _ p hp).2.2) ((hfB.lput hd _).lput hII _) ?_ ?_
   ·rw [zal,if_pos rfl]; simp
   ·rw [zal,if_neg (Ne.symm e5),zal,if_neg (Ne.symm e4)]; exact hN2
def zhG (c b I d n:Nat) (B:ICode):ICode :=
 .seq (.region [⟨some c,none,.bin .lss,[.slot I,.val (.int .i64 (n:Int))],none⟩])
  (.seq (.cond (.slot c) .skip (.exit b)) (.seq B (.region [⟨some d,none,.bin .add,[.slot I,.val (.int .i64 1)],none⟩,⟨some I,none,.id,[.slot d],none⟩])))
theorem ze0 {A:Type} (slots:Nat→A→List (Nat × GV)) (P:Nat→A→Nat→GH→Prop) {c b I d:Nat} {B L:ICode} {K:GExit × St→Prop} {l0:List GV} {n:Nat} (hL:L=zhG c b I d n B) (hn:(n:Int)≤9223372036854775807)
 (hne:c≠I∧d≠I) (hw:(wr B).contains I=false)
 (hs:∀ i a,∀ p∈slots i a,p.1≠c∧p.1≠d∧p.1≠I)
 (hbody:∀ i a l g H,i<n→P i a g H→Holds (slots i a) l→Fr L l0 l→zad l I=.int .i64 i →
   optW (erun T B ⟨⟨l,g⟩,H⟩) (zBD (fun l' g' H'=>Fr B l l'→∃ a',P (i+1) a' g' H'∧Holds (slots (i+1) a') l') fun r=>Fr L l0 r.2.e.s→K r))
 (hexit:∀ a l g H,P n a g H→Holds (slots n a) l→Fr L l0 l→K (.exit b,⟨⟨l,g⟩,H⟩)) :
 ∀ i a l g H,i≤n→P i a g H→Holds (slots i a) l→Fr L l0 l→zad l I=.int .i64 i→optW (erun T (.loop L) ⟨⟨l,g⟩,H⟩) K:=by
 obtain ⟨e1,e3⟩:=hne
 have hc:c∈wr L:=by rw [hL]; simp [zhG,wr]
 have hd:d∈wr L:=by rw [hL]; simp [zhG,wr]
 have hII:I∈wr L:=by rw [hL]; simp [zhG,wr]
 have hBc:zpF L=true→zpF B=true:=fun h=>by rw [hL] at h; simp [zhG,zpF] at h; exact h.2.1
 have hB:∀ t,t∈wr B→t∈wr L:=fun t ht=>by rw [hL]; simp [zhG,wr]; right; left; exact ht
 intro i
 generalize hk:n - i=k
 induction k generalizing i with
 | zero =>
  intro a l g H hi hP hh hf hI
  obtain rfl:i=n:=by omega
  rw [zam]
  rw [hL]
  simp [zhG,hI]
  exact hexit a _ g H hP (hh.put fun p hp=>(hs _ _ p hp).1) (hf.lput hc _)
 | succ k ih =>
  intro a l g H hi hP hh hf hI
  have hlt:i<n:=by omega
  have hwr:IntKind.i64.wrap ((i:Int)+1)=(i:Int)+1:=zan (by omega) (by omega)
  rw [zam,zao]
  have hrun:∀ K',optW (erun T B ⟨⟨lput l c (.bool true),g⟩,H⟩) (zBy (fun s=>erun T (.region [⟨some d,none,.bin .add,[.slot I,.val (.int .i64 1)],none⟩,⟨some I,none,.id,[.slot d],none⟩]) s) K')→optW (erun T L ⟨⟨l,g⟩,H⟩) K':=by
   intro K' hk
   rw [hL]
   have hlti:(i:Int)<n:=by omega
   simp [zhG,hI,hlt]
   rw [zao]
   exact hk
  apply hrun
  have hI1:zad (lput l c (.bool true)) I=.int .i64 i:=by rw [zal,if_neg (Ne.symm e1)]; exact hI
  have hb:=hbody i a (lput l c (.bool true)) g H hlt hP (hh.put fun p hp=>(hs _ _ p hp).1) (hf.lput hc _) hI1
  obtain ⟨⟨r,s'⟩,h1,h2⟩:=hb
  refine ⟨(r,s'),h1, ?_⟩
  have h3:=zoK h1
  have hfB:Fr L l0 s'.e.s:=(hf.lput hc _).trans (h3.mono hBc hB)
  obtain ⟨⟨l',g'⟩,H'⟩:=s'
  cases r with
  | exit j=>exact h2 hfB
  | ret=>exact h2 hfB
  | normal =>
   have hI2:zad l' I=.int .i64 i:=(h3 I hw (by rw [hI1]; simp [GV.boxy])).trans hI1
   obtain ⟨a',h5,h6⟩:=h2 h3
   rw [zi1]
   simp [hI2,hwr]
   refine ih (i+1) (by omega) a' _ g' H' (by omega) h5 ((h6.put fun p hp=>(hs _ _ p hp).2.1).put fun p hp=>(hs _ _ p hp).2.2) ((hfB.lput hd _).lput hII _) ?_
   ·rw [zal,if_pos rfl]; simp
structure At {α:Type} (all:List α) (e:α→GV) (sz:Nat) (v:GV) (i:Nat) (x:α):Prop where
 lt:(i:Int)<all.length
 ix:gIx all.length (.int .i64 (i:Int))=some i
 opt:all[i]?=some x
 get:∀ h:i<all.length,all[i]'h=x
 sl:∃ t,v=.sl sz (all.map e) t
 wr:IntKind.i64.wrap ((i:Int)+1)=(i:Int)+1
 mem:x∈all
theorem zbX {α:Type} {all:List α} {e:α→GV} {sz:Nat} {v:GV} (hv:Elems sz v (all.map e)) {i:Nat} (hi:i<all.length) (hn:(all.length:Int)≤9223372036854775807):At all e sz v i (all[i]'hi) where
 lt:=by omega
 ix:=by simp only [gIx]; rw [if_pos (by omega)]; simp
 opt:=List.getElem?_eq_getElem hi
 get:=fun _=>rfl
 sl:=hv.is_sl (i:=i) (x:=e (all[i]'hi)) (by simp [hi])
 wr:=zan (by omega) (by omega)
 mem:=List.getElem_mem hi
theorem Elems.boxy {sz:Nat} {s:GV} {xs:List GV} (h:Elems sz s xs):s.boxy=false:=by cases h <;> rfl
theorem Elems.unb {sz:Nat} {s:GV} {xs:List GV} (h:Elems sz s xs) (t:Nat):zbJ t s=s:=by cases h <;> rfl
end
end Go.Sh
