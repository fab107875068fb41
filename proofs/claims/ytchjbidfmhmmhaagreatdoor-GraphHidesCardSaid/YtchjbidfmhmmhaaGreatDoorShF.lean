/- Own work: the zaG machine and what it shows, part ShF. -/
import Derived.Test.YtchjbidfmhmmhaaGreatDoorShG
import Derived.Laws.BitsLemmas
import Derived.Laws.Strings
import Derived.OpenShut
set_option linter.all false
namespace Go.Sh
def zv6 (r:Option (GExit × St)) (k:St→Option (GExit × St)):Option (GExit × St) :=
 match r with
 | some (.normal,s)=>k s
 | r=>r
@[simp] theorem zyc (s:St) (k:St→Option (GExit × St)):zv6 (some (.normal,s)) k=k s:=rfl
@[simp] theorem zBV (s:St) (k:St→Option (GExit × St)):zv6 (some (.ret,s)) k=some (.ret,s):=rfl
@[simp] theorem zAT (i:Nat) (s:St) (k:St→Option (GExit × St)):zv6 (some (.exit i,s)) k=some (.exit i,s):=rfl
@[simp] theorem zAU (k:St→Option (GExit × St)):zv6 none k=none:=rfl
def zv7 (v:GV) (x y:St→Option (GExit × St)) (s:St):Option (GExit × St) :=
 match v with
 | .bool b=>if b=true then x s else y s
 | _=>none
@[simp] theorem zy0 (x y:St→Option (GExit × St)) (s:St):zv7 (.bool true) x y s=x s:=rfl
@[simp] theorem zyd (x y:St→Option (GExit × St)) (s:St):zv7 (.bool false) x y s=y s:=rfl
def zie (id:Nat) (r:Option (GExit × St)):Option (GExit × St) :=
 match r with
 | some (.exit id',s)=>if id'=id then some (.normal,s) else some (.exit id',s)
 | r=>r
@[simp] theorem zv8 (id:Nat) (s:St):zie id (some (.normal,s))=some (.normal,s):=rfl
@[simp] theorem zy1 (id:Nat) (s:St):zie id (some (.ret,s))=some (.ret,s):=rfl
@[simp] theorem zm4 (id i:Nat) (s:St):zie id (some (.exit i,s))=if i=id then some (.normal,s) else some (.exit i,s):=rfl
@[simp] theorem zye (id:Nat):zie id none=none:=rfl
@[simp] theorem zyf (s:St) (k:St→Option (GV × GH)):zlC (some (.normal,s)) k=k s:=rfl
@[simp] theorem zBW (s:St) (k:St→Option (GV × GH)):zlC (some (.ret,s)) k=k s:=rfl
@[simp] theorem zAV (k:St→Option (GV × GH)):zlC none k=none:=rfl
def zDx (r:Option St):Option (GExit × St):=r.map fun s=>(.normal,s)
@[simp] theorem zAW (s:St):zDx (some s)=some (.normal,s):=rfl
@[simp] theorem zAX:zDx none=none:=rfl
section
variable {T:Nat→Option IFun}
theorem zyg (a b:ICode) (s:St):erun T (.seq a b) s=zv6 (erun T a s) (erun T b):=by
 rw [zob]
 unfold zv6
 split
 ·rename_i h; rw [h]
 ·rename_i h
  split
  ·rename_i h'; exact absurd h' (h _)
  ·rfl
theorem zv9 (c:Src) (a b:ICode) (l:List GV) (g:Nat) (H:GH):erun T (.cond c a b) ⟨⟨l,g⟩,H⟩=zv7 (zac ⟨l,g⟩ c) (erun T a) (erun T b) ⟨⟨l,g⟩,H⟩:=by
 rw [ztg]
 unfold zv7
 split
 ·rename_i h; simp [h]
 ·rename_i h; simp [h]
 ·rename_i h1 h2
  split
  ·rename_i b' h
   cases b'
   ·exact absurd h h2
   ·exact absurd h h1
  ·rfl
theorem zti (id:Nat) (a:ICode) (s:St):erun T (.block id a) s=zie id (erun T a s):=by
 rw [zpP]
 unfold zie
 rfl
theorem zal (a:ICode) (s:St):erun T (.loop a) s=zv6 (erun T a s) (erun T (.loop a)):=by
 rw [zth]
 unfold zv6
 split
 ·rename_i h; rw [h]
 ·rename_i h
  split
  ·rename_i h'; exact absurd h' (h _)
  ·rfl
theorem zpQ (ops:List IOp) (s:St):erun T (.region ops) s=zDx (zbC (ecall T) ops s):=zfi ops s
end
section
variable (call:Nat→List GV→GH→Option (GV × GH))
theorem zwa (s:St):zbC call [] s=some s:=rfl
def zf0 (v:GV) (w:Bool) (x y:St→Option St) (d:Option Nat) (s:St):Option St :=
 match v with
 | .bool b=>if b=w then x s else y { s with e:=s.e.put d (.tup []) }
 | .tup []=>y { s with e:=s.e.put d (.tup []) }
 | _=>none
@[simp] theorem zAY (x y:St→Option St) (d:Option Nat) (s:St):zf0 (.bool true) true x y d s=x s:=rfl
@[simp] theorem zAZ (x y:St→Option St) (d:Option Nat) (s:St):zf0 (.bool false) false x y d s=x s:=rfl
@[simp] theorem zA0 (x y:St→Option St) (d:Nat) (l:List GV) (g:Nat) (H:GH):zf0 (.bool true) false x y (some d) ⟨⟨l,g⟩,H⟩=y ⟨⟨lput l d (.tup []),g⟩,H⟩:=rfl
@[simp] theorem zA1 (x y:St→Option St) (d:Nat) (l:List GV) (g:Nat) (H:GH):zf0 (.bool false) true x y (some d) ⟨⟨l,g⟩,H⟩=y ⟨⟨lput l d (.tup []),g⟩,H⟩:=rfl
@[simp] theorem zA2 (w:Bool) (x y:St→Option St) (d:Nat) (l:List GV) (g:Nat) (H:GH):zf0 (.tup []) w x y (some d) ⟨⟨l,g⟩,H⟩=y ⟨⟨lput l d (.tup []),g⟩,H⟩:=rfl
@[simp] theorem zy2 (w:Bool) (x y:St→Option St) (l:List GV) (g:Nat) (H:GH):zf0 (.tup []) w x y none ⟨⟨l,g⟩,H⟩=y ⟨⟨l,g⟩,H⟩:=rfl
@[simp] theorem zy3 (x y:St→Option St) (l:List GV) (g:Nat) (H:GH):zf0 (.bool true) false x y none ⟨⟨l,g⟩,H⟩=y ⟨⟨l,g⟩,H⟩:=rfl
@[simp] theorem zy4 (x y:St→Option St) (l:List GV) (g:Nat) (H:GH):zf0 (.bool false) true x y none ⟨⟨l,g⟩,H⟩=y ⟨⟨l,g⟩,H⟩:=rfl
def akK (b:Bool) (x:St→Option St) (s:St):Option St:=if b=true then x s else none
@[simp] theorem zBX (x:St→Option St) (s:St):akK true x s=x s:=rfl
def zA3 (f:Option Eff) (d:Option Nat) (x:St→Option St) (l:List GV):Option St :=
 match f with
 | some f=>x (f.on d ⟨⟨l,0⟩,f.H⟩)
 | none=>none
@[simp] theorem zA4 (v:GV) (H:GH) (g d:Nat) (x:St→Option St) (l:List GV):zA3 (some ⟨v,none,H,g⟩) (some d) x l=x ⟨⟨lput l d v,g⟩,H⟩:=rfl
@[simp] theorem zA5 (v:GV) (H:GH) (g:Nat) (x:St→Option St) (l:List GV):zA3 (some ⟨v,none,H,g⟩) none x l=x ⟨⟨l,g⟩,H⟩:=rfl
@[simp] theorem zBY (v w:GV) (b:Nat) (H:GH) (g d:Nat) (x:St→Option St) (l:List GV):zA3 (some ⟨v,some (b,w),H,g⟩) (some d) x l=x ⟨⟨lput (lput l b w) d v,g⟩,H⟩:=rfl
@[simp] theorem zwb (v w:GV) (b:Nat) (H:GH) (g:Nat) (x:St→Option St) (l:List GV):zA3 (some ⟨v,some (b,w),H,g⟩) none x l=x ⟨⟨lput l b w,g⟩,H⟩:=rfl
def zcc (v:Option GV) (g:Nat) (H:GH):Option Eff:=v.map fun v=>⟨v,none,H,g⟩
@[simp] theorem zy5 (v:GV) (g:Nat) (H:GH):zcc (some v) g H=some ⟨v,none,H,g⟩:=rfl
def zha (r:Option (GV × GH)) (g:Nat):Option Eff:=r.map fun r=>⟨r.1,none,r.2,g⟩
@[simp] theorem zy6 (v:GV) (g:Nat) (H:GH):zha (some (v,H)) g=some ⟨v,none,H,g⟩:=rfl
def zxd (r:Option (GV × GH)) (g:Nat) (H:GH):Option Eff:=r.map fun r=>⟨r.1,none,H,g⟩
@[simp] theorem zyh (v:GV) (g:Nat) (H H':GH):zxd (some (v,H')) g H=some ⟨v,none,H,g⟩:=rfl
theorem zpR (d:Option Nat) (t:Nat) (w:Bool) (p:Prim) (as:List Src) (ak:Option AK) (o:List IOp) (l:List GV) (g:Nat) (H:GH) :
 zbC call (⟨d,some (t,w),p,as,ak⟩::o) ⟨⟨l,g⟩,H⟩=zf0 (zag l t) w (zbC call (⟨d,none,p,as,ak⟩::o)) (zbC call o) d ⟨⟨l,g⟩,H⟩:=by
 simp only [zbC,gop,zbm]
 cases hv:zag l t <;> try rfl
 ·rename_i b
  cases b <;> cases w <;> rfl
 ·rename_i vs
  cases vs <;> rfl
theorem zyi (d:Option Nat) (p:Prim) (k:AK) (a:Src) (as:List Src) (o:List IOp) (l:List GV) (g:Nat) (H:GH) :
 zbC call (⟨d,none,p,a::as,some k⟩::o) ⟨⟨l,g⟩,H⟩=akK (k.fits (zac ⟨l,g⟩ a)) (zbC call (⟨d,none,p,a::as,none⟩::o)) ⟨⟨l,g⟩,H⟩:=by
 cases hk:k.fits (zac ⟨l,g⟩ a) <;> simp [zbC,gop,zbm,zqy,akK,hk]
theorem zyj (d:Option Nat) (p:Prim) (as:List Src) (o:List IOp) (l:List GV) (g:Nat) (H:GH) :
 zbC call (⟨d,none,p,as,none⟩::o) ⟨⟨l,g⟩,H⟩=zA3 (zao call p (as.map (zac ⟨l,g⟩)) ⟨l,g⟩ H) d (zbC call o) l:=by
 simp only [zbC,gop,zbm,zqy,if_true]
 cases zao call p (as.map (zac ⟨l,g⟩)) ⟨l,g⟩ H with
 | none=>rfl
 | some f =>
  obtain ⟨v,b,H',g'⟩:=f
  cases d <;> (cases b <;> rfl)
variable (l:List GV) (g:Nat) (H:GH) (a b c:GV)
theorem zyk:zao call .id [a] ⟨l,g⟩ H=some ⟨a,none,H,g⟩:=rfl
theorem ztj (x:Bool):zao call .pick [.bool x,a,b] ⟨l,g⟩ H=some ⟨if x=true then a else b,none,H,g⟩:=rfl
theorem zwc (op:BinOp):zao call (.bin op) [a,b] ⟨l,g⟩ H=zcc (zsv op a b) g H:=rfl
theorem zwd (n:Bool) (ls:List Leaf) (x y:List GV):zao call (.eqv n ls) [.agg x,.agg y] ⟨l,g⟩ H=zcc ((zaT ls x y).map fun b=>.bool (if n=true then !b else b)) g H:=rfl
theorem zwe (n:Bool) (lf:Leaf):zao call (.eq1 n lf) [a,b] ⟨l,g⟩ H=zcc ((zba lf a b).map fun b=>.bool (if n=true then !b else b)) g H:=rfl
theorem zyl (op:UnOp):zao call (.un op) [a] ⟨l,g⟩ H=zcc (gUn op a) g H:=rfl
theorem ztk (k k':IntKind) (n:Int):zao call (.conv k) [.int k' n] ⟨l,g⟩ H=some ⟨.int k (k.wrap n),none,H,g⟩:=rfl
theorem zpS (s:ByteArray):zao call .strid [.str s] ⟨l,g⟩ H=some ⟨.str s,none,H,g⟩:=rfl
theorem zwf (sz:Nat) (xs:List GV) (t:Tag):zao call .b2s [.sl sz xs t] ⟨l,g⟩ H=zcc ((zcM xs).map fun l=>.str ⟨l.toArray⟩) g H:=rfl
theorem zlD:zao call .b2s [.nilsl] ⟨l,g⟩ H=some ⟨.str .empty,none,H,g⟩:=rfl
theorem zpT (z:List GV) (ps:List (Nat × Nat)) (vs:List GV):zao call (.build z ps) vs ⟨l,g⟩ H=zcc (if oks vs&&vs.length == ps.length then (za6 z (ps.zip vs)).map .agg else none) g H:=rfl
theorem zlE (off s g' o:Nat):zao call (.faddr off) [.laddr s g' o] ⟨l,g⟩ H=some ⟨.laddr s g' (o+off),none,H,g⟩:=rfl
theorem zlF (off i o:Nat):zao call (.faddr off) [.ptr i o] ⟨l,g⟩ H=some ⟨.ptr i (o+off),none,H,g⟩:=rfl
theorem zlG (off:Nat) (cs:List GV) (o:Nat):zao call (.faddr off) [.el cs o] ⟨l,g⟩ H=some ⟨.el cs (o+off),none,H,g⟩:=rfl
theorem zpU (off sz:Nat) (ag:Bool) (cs:List GV):zao call (.field off sz ag) [.agg cs] ⟨l,g⟩ H=zcc (zbP cs off sz ag) g H:=rfl
theorem zm5 (sz:Nat) (xs:List GV) (t:Tag):zao call (.ixaddr sz) [.sl sz xs t,a] ⟨l,g⟩ H=zcc ((gIx xs.length a).bind fun i=>(xs[i]?).map fun x=>.el x.cells 0) g H:=by
 show ((if sz=sz then _ else _:Option GV).map _)=_
 rw [if_pos rfl]; rfl
theorem zkj (sz id off len:Nat) (ag:Bool):zao call (.ixaddr sz) [.hsl id off len sz ag,a] ⟨l,g⟩ H=zcc ((gIx len a).map fun i=>.ptr id (off+i * sz)) g H:=by
 show ((if sz=sz then _ else _:Option GV).map _)=_
 rw [if_pos rfl]; rfl
theorem ziS (n sz s g' o:Nat):zao call (.ixaddrA n sz) [.laddr s g' o,a] ⟨l,g⟩ H=zcc ((gIx n a).map fun i=>.laddr s g' (o+i * sz)) g H:=rfl
theorem ziT (n sz i o:Nat):zao call (.ixaddrA n sz) [.ptr i o,a] ⟨l,g⟩ H=zcc ((gIx n a).map fun j=>.ptr i (o+j * sz)) g H:=rfl
theorem ziU (n sz:Nat) (cs:List GV) (o:Nat):zao call (.ixaddrA n sz) [.el cs o,a] ⟨l,g⟩ H=zcc ((gIx n a).map fun j=>.el cs (o+j * sz)) g H:=rfl
theorem zpV (s:ByteArray):zao call .ixstr [.str s,a] ⟨l,g⟩ H=zcc ((gIx s.size a).bind fun i=>(s[i]?).map fun b=>.int .u8 b.toNat) g H:=rfl
theorem zpW (n sz:Nat) (ag:Bool) (cs:List GV):zao call (.ixarr n sz ag) [.agg cs,a] ⟨l,g⟩ H=zcc ((gIx n a).bind fun i=>zbP cs (i * sz) sz ag) g H:=rfl
theorem zpX (lo hi:Bool) (s:ByteArray) (bs:List GV):zao call (.slstr lo hi) (.str s::bs) ⟨l,g⟩ H=zcc ((zaO s.size lo hi false bs).map fun (l,h,_)=>.str (s.extract l h)) g H:=rfl
theorem zlH (sz:Nat) (lo hi mx:Bool) (xs:List GV) (t:Tag) (bs:List GV):zao call (.slsl sz lo hi mx) (.sl sz xs t::bs) ⟨l,g⟩ H =
 zcc ((zaO xs.length lo hi mx bs).map fun (l,h,m)=>.sl sz ((xs.drop l).take (h - l)) (zeZ t xs.length h m)) g H:=by
 show ((if sz=sz then _ else _:Option GV).map _)=_
 rw [if_pos rfl]; rfl
theorem zf1 (sz:Nat) (lo hi mx:Bool) (bs:List GV):zao call (.slsl sz lo hi mx) (.nilsl::bs) ⟨l,g⟩ H=zcc ((zaO 0 lo hi mx bs).map fun _=>.nilsl) g H:=rfl
theorem zkk (s g' o:Nat):zao call .nilchk [.laddr s g' o] ⟨l,g⟩ H=some ⟨.laddr s g' o,none,H,g⟩:=rfl
theorem zkl (i o:Nat):zao call .nilchk [.ptr i o] ⟨l,g⟩ H=some ⟨.ptr i o,none,H,g⟩:=rfl
theorem zkm (cs:List GV) (o:Nat):zao call .nilchk [.el cs o] ⟨l,g⟩ H=some ⟨.el cs o,none,H,g⟩:=rfl
theorem zkn (i:Nat):zao call .nilchk [.map i] ⟨l,g⟩ H=some ⟨.map i,none,H,g⟩:=rfl
theorem zko (f:Nat) (x y:List GV):zao call .nilchk [.func f x y] ⟨l,g⟩ H=some ⟨.func f x y,none,H,g⟩:=rfl
theorem zkp (t:Nat) (v:GV):zao call .nilchk [.iface t v] ⟨l,g⟩ H=some ⟨.iface t v,none,H,g⟩:=rfl
theorem zif (x:List GV):zao call .nilchk [.agg x] ⟨l,g⟩ H=some ⟨.agg x,none,H,g⟩:=rfl
theorem ziV (sz:Nat) (x:List GV) (t:Tag):zao call .nilchk [.sl sz x t] ⟨l,g⟩ H=some ⟨.sl sz x t,none,H,g⟩:=rfl
theorem zlI (i:Nat) (vs:List GV):zao call (.extract i) [.tup vs] ⟨l,g⟩ H=zcc (vs[i]?) g H:=rfl
theorem zm6 (f n:Nat) (vs:List GV):zao call (.mkfunc f n) vs ⟨l,g⟩ H=zcc (if oks vs then some (.func f (vs.take n) (vs.drop n)) else none) g H:=rfl
theorem zm7 (s:ByteArray):zao call .lenstr [.str s] ⟨l,g⟩ H=some ⟨.int .i64 s.size,none,H,g⟩:=rfl
theorem ziW:zao call .lensl [.nilsl] ⟨l,g⟩ H=some ⟨.int .i64 0,none,H,g⟩:=rfl
theorem zpY (sz:Nat) (xs:List GV) (t:Tag):zao call .lensl [.sl sz xs t] ⟨l,g⟩ H=some ⟨.int .i64 xs.length,none,H,g⟩:=rfl
theorem zlJ (x y n sz:Nat) (ag:Bool):zao call .lensl [.hsl x y n sz ag] ⟨l,g⟩ H=some ⟨.int .i64 n,none,H,g⟩:=rfl
theorem ztl (n:Nat):zao call (.lenN n) [a] ⟨l,g⟩ H=some ⟨.int .i64 n,none,H,g⟩:=rfl
theorem zm8 (mx:Bool) (k k':IntKind) (x y:Int):zao call (.minmax mx) [.int k x,.int k' y] ⟨l,g⟩ H=some ⟨.int k (if mx=true then (if y > x then y else x) else (if y<x then y else x)),none,H,g⟩:=rfl
theorem zm9 (z:List GV):zao call (.allocL z) [] ⟨l,g⟩ H=some ⟨.lbox g z,none,H,g+1⟩:=rfl
theorem zna (k:Nat) (z:List GV):zao call (.allocK k z) [] ⟨l,g⟩ H=some ⟨.lbox (g+k) z,none,H,g⟩:=rfl
theorem znb (k:Nat) (s:ByteArray):zao call (.rangeK k) [.str s] ⟨l,g⟩ H=some ⟨.siter (g+k) s 0,none,H,g⟩:=rfl
def boxK (b:Bool) (f:Eff):Option Eff:=if b=true then some f else none
@[simp] theorem zA6 (f:Eff):boxK true f=some f:=rfl
theorem ztm:zao call .boxL [a] ⟨l,g⟩ H=boxK a.ok ⟨.lbox g a.cells,none,H,g+1⟩:=rfl
theorem zpZ (k:Nat):zao call (.boxK k) [a] ⟨l,g⟩ H=boxK a.ok ⟨.lbox (g+k) a.cells,none,H,g⟩:=rfl
theorem znc (t:Nat) (z:List GV):zao call (.allocH t z) [] ⟨l,g⟩ H=some ⟨.ptr H.objs.length 0,none,H.newObj (.cells t z),g⟩:=rfl
theorem ztn (t:Nat):zao call (.boxH t) [a] ⟨l,g⟩ H=boxK a.ok ⟨.ptr H.objs.length 0,none,H.newObj (.cells t a.cells),g⟩:=rfl
def zlK (v:GV) (g:Nat) (f:List GV→Option GV):Option GV :=
 match v with
 | .lbox g' cs=>if g'=g then f cs else none
 | _=>none
@[simp] theorem zym (g:Nat) (cs:List GV) (f:List GV→Option GV):zlK (.lbox g cs) g f=f cs:=if_pos rfl
theorem znd (sz:Nat) (ag:Bool) (s g' o:Nat):zao call (.load sz ag) [.laddr s g' o] ⟨l,g⟩ H=zcc (zlK (zag l s) g' fun cs=>zbP cs o sz ag) g H:=by
 show (((zef ⟨l,g⟩ s g').bind _:Option GV).map _)=_
 unfold zef zlK zcc
 simp only
 generalize zag l s=v
 cases v <;> try rfl
 rename_i g1 cs
 by_cases h:g1=g' <;> simp [h]
theorem zne (sz:Nat) (ag:Bool) (cs:List GV) (o:Nat):zao call (.load sz ag) [.el cs o] ⟨l,g⟩ H=zcc (zbP cs o sz ag) g H:=rfl
def zoc (o:Option GObj) (f:List GV→Option GV):Option GV :=
 match o with
 | some (.cells _ cs)=>f cs
 | some (.row _ cs)=>f cs
 | _=>none
@[simp] theorem zy7 (t:Nat) (cs:List GV) (f:List GV→Option GV):zoc (some (.row t cs)) f=f cs:=rfl
@[simp] theorem zyn (t:Nat) (cs:List GV) (f:List GV→Option GV):zoc (some (.cells t cs)) f=f cs:=rfl
theorem znf (sz:Nat) (ag:Bool) (i o:Nat):zao call (.load sz ag) [.ptr i o] ⟨l,g⟩ H=zcc (zoc (H.objs[i]?) fun cs=>zbP cs o sz ag) g H:=by
 show ((_:Option GV).map _)=zcc (match H.objs[i]? with | some (.cells _ cs)=>zbP cs o sz ag | some (.row _ cs)=>zbP cs o sz ag | _=>none) g H
 rfl
def zto (v:GV) (s g' o:Nat) (x:List GV) (g:Nat) (H:GH):Option Eff :=
 match v with
 | .lbox g'' cs=>if g''=g' then (zae cs o x).map fun cs'=>⟨.junk,some (s,.lbox g' cs'),H,g⟩ else none
 | _=>none
def zDR (r:Option (List GV)) (s g' g:Nat) (H:GH):Option Eff:=r.map fun cs'=>⟨.junk,some (s,.lbox g' cs'),H,g⟩
@[simp] theorem zA7 (cs:List GV) (s g' g:Nat) (H:GH):zDR (some cs) s g' g H=some ⟨.junk,some (s,.lbox g' cs),H,g⟩:=rfl
@[simp] theorem zyo (g':Nat) (cs:List GV) (s o:Nat) (x:List GV):zto (.lbox g' cs) s g' o x g H=zDR (zae cs o x) s g' g H:=if_pos rfl
def zlL (b:Bool) (f:Option Eff):Option Eff:=if b=true then f else none
@[simp] theorem zyp (f:Option Eff):zlL true f=f:=rfl
theorem zlM (sz s g' o:Nat):zao call (.store sz) [.laddr s g' o,a] ⟨l,g⟩ H=zlL (a.ok&&a.flat&&a.cells.length == sz) (zto (zag l s) s g' o a.cells g H):=by
 simp only [zao,zlL]
 split
 ·unfold zef zto
  simp only
  generalize zag l s=v
  cases v <;> try rfl
  rename_i g1 cs
  by_cases h:g1=g' <;> simp [h]
 ·rfl
def zod (o:Option GObj) (bo i off:Nat) (x:List GV) (g:Nat) (H:GH):Option Eff :=
 match o with
 | some (.cells t cs)=>if bo≤i then (zae cs off x).map fun cs'=>⟨.junk,none,{ H with objs:=H.objs.set i (.cells t cs') },g⟩ else none
 | some (.row t cs)=>if bo≤i then (zae cs off x).map fun cs'=>⟨.junk,none,{ H with objs:=H.objs.set i (.row t cs') },g⟩ else none
 | _=>none
def zA8 (t:Nat) (r:Option (List GV)) (i g:Nat) (H:GH):Option Eff:=r.map fun cs'=>⟨.junk,none,{ H with objs:=H.objs.set i (.row t cs') },g⟩
@[simp] theorem zy8 (t:Nat) (cs:List GV) (i g:Nat) (H:GH):zA8 t (some cs) i g H=some ⟨.junk,none,{ H with objs:=H.objs.set i (.row t cs) },g⟩:=rfl
def zA9 (t:Nat) (r:Option (List GV)) (i g:Nat) (H:GH):Option Eff:=r.map fun cs'=>⟨.junk,none,{ H with objs:=H.objs.set i (.cells t cs') },g⟩
@[simp] theorem zy9 (t:Nat) (cs:List GV) (i g:Nat) (H:GH):zA9 t (some cs) i g H=some ⟨.junk,none,{ H with objs:=H.objs.set i (.cells t cs) },g⟩:=rfl
@[simp] theorem ztp (t:Nat) (cs:List GV) (bo i off:Nat) (x:List GV):zod (some (.row t cs)) bo i off x g H=if bo≤i then zA8 t (zae cs off x) i g H else none:=rfl
@[simp] theorem zyq (t:Nat) (cs:List GV) (bo i off:Nat) (x:List GV):zod (some (.cells t cs)) bo i off x g H=if bo≤i then zA9 t (zae cs off x) i g H else none:=rfl
theorem zlN (sz i o:Nat):zao call (.store sz) [.ptr i o,a] ⟨l,g⟩ H=zlL (a.ok&&a.flat&&a.cells.length == sz) (zod (H.objs[i]?) H.bo i o a.cells g H):=by
 simp only [zao,zlL]
 split
 ·unfold zod
  cases H.objs[i]? with
  | none=>rfl
  | some ob=>cases ob <;> rfl
 ·rfl
theorem zwg (s:ByteArray):zao call .s2b [.str s] ⟨l,g⟩ H=if s.size≤maxLen then some ⟨.sl 1 (zbf s) .imm,none,H,g⟩ else none:=rfl
theorem zlO (sz len:Nat) (z:GV) (idx:List Nat) (as:List GV):zao call (.buildSl sz len z idx) as ⟨l,g⟩ H =
 if oks as&&as.length == idx.length&&as.all (fun v=>v.cells.length == sz&&v.flat)&&idx.all (· < len)&&z.cells.length == sz&&z.flat then
  some ⟨.sl sz (zaj (List.replicate len z) (idx.zip as)) .exact,none,H,g⟩ else none:=rfl
theorem zng (ty sz len:Nat) (z:GV) (idx:List Nat) (as:List GV):zao call (.buildR ty sz len z idx) as ⟨l,g⟩ H =
 if oks as&&as.length == idx.length&&as.all (fun v=>v.cells.length == sz&&v.flat)&&idx.all (· < len)&&z.cells.length == sz&&z.flat then
  some ⟨.hsl H.objs.length 0 len sz false,none,H.newObj (.row ty ((zaj (List.replicate len z) (idx.zip as)).flatMap GV.cells)),g⟩ else none:=rfl
theorem zp0 (ty sz bytes:Nat) (z:GV):zao call (.makeR ty sz bytes z) [a,b] ⟨l,g⟩ H=zha (zle H ty sz bytes z a b) g:=rfl
theorem zwh:zao call .b2r [a] ⟨l,g⟩ H=zcc (zBU H [a]) g H:=rfl
theorem znh (ty sz bytes:Nat):zao call (.append ty sz bytes) [a,b] ⟨l,g⟩ H=zha (zaU H ty sz bytes a b) g:=rfl
theorem zlP (ty:Nat):zao call (.appendS ty) [a,b] ⟨l,g⟩ H=zha (zaU H ty 1 1 a b) g:=rfl
theorem zp1 (s:ByteArray):zao call .range [.str s] ⟨l,g⟩ H=some ⟨.siter g s 0,none,H,g+1⟩:=rfl
theorem ztq (f:Nat) (as:List GV):zao call (.call f) as ⟨l,g⟩ H=if oks as=true then zha (call f as H) g else none:=rfl
theorem zp2 (f:Nat) (as:List GV):zao call (.callP f) as ⟨l,g⟩ H=if oks as=true then zxd (call f as H) g H else none:=rfl
theorem zp3 (f:Nat) (x y as:List GV):zao call .callv (.func f x y::as) ⟨l,g⟩ H=if oks as=true then zha (call f (x++as++y) H) g else none:=rfl
end
@[simp] theorem zBZ (s g o:Nat):AK.fits (.loc s) (.laddr s g o)=true:=by simp [AK.fits]
@[simp] theorem zDy (cs:List GV) (o:Nat):AK.fits .el (.el cs o)=true:=rfl
@[simp] theorem zBa (i o:Nat):AK.fits .heap (.ptr i o)=true:=rfl
def zbx (t:Nat):GV→GV
 | .lbox g _=>.laddr t g 0
 | .siter g _ _=>.laddr t g 0
 | v=>v
theorem zp4 (l:List GV) (g t:Nat):zac ⟨l,g⟩ (.slot t)=zbx t (zag l t):=rfl
theorem ztr (e:Env) (v:GV):zac e (.val v)=v:=rfl
@[simp] theorem zza (t:Nat):zbx t .junk=.junk:=rfl
@[simp] theorem zzb (t:Nat):∀ b,zbx t (.bool b)=.bool b:=by intros; rfl
@[simp] theorem zBb (t:Nat):∀ k n,zbx t (.int k n)=.int k n:=by intros; rfl
@[simp] theorem zBc (t:Nat):∀ s,zbx t (.str s)=.str s:=by intros; rfl
@[simp] theorem zxe (t:Nat):zbx t .nilptr=.nilptr:=rfl
@[simp] theorem zBd (t:Nat):∀ i o,zbx t (.ptr i o)=.ptr i o:=by intros; rfl
@[simp] theorem zyr (t:Nat):zbx t .nilsl=.nilsl:=rfl
@[simp] theorem zB0 (t:Nat):∀ a b c,zbx t (.sl a b c)=.sl a b c:=by intros; rfl
@[simp] theorem zBe (t:Nat):∀ a b c d e,zbx t (.hsl a b c d e)=.hsl a b c d e:=by intros; rfl
@[simp] theorem zxf (t:Nat):zbx t .nilmap=.nilmap:=rfl
@[simp] theorem zBf (t:Nat):∀ i,zbx t (.map i)=.map i:=by intros; rfl
@[simp] theorem zwi (t:Nat):zbx t .nilfunc=.nilfunc:=rfl
@[simp] theorem zzc (t:Nat):∀ f a b,zbx t (.func f a b)=.func f a b:=by intros; rfl
@[simp] theorem zum (t:Nat):zbx t .niliface=.niliface:=rfl
@[simp] theorem zys (t:Nat):∀ a v,zbx t (.iface a v)=.iface a v:=by intros; rfl
@[simp] theorem zBg (t:Nat):∀ a,zbx t (.agg a)=.agg a:=by intros; rfl
@[simp] theorem zBh (t:Nat):∀ a,zbx t (.tup a)=.tup a:=by intros; rfl
@[simp] theorem zB1 (t:Nat):∀ a b,zbx t (.el a b)=.el a b:=by intros; rfl
@[simp] theorem zyt (t:Nat):∀ a b c,zbx t (.laddr a b c)=.laddr a b c:=by intros; rfl
@[simp] theorem zzd (t g:Nat) (cs:List GV):zbx t (.lbox g cs)=.laddr t g 0:=rfl
@[simp] theorem zyu (t g:Nat) (b:ByteArray) (p:Nat):zbx t (.siter g b p)=.laddr t g 0:=rfl
@[simp] theorem zB2 {t:Nat} {v:GV} (h:v.ok=true):zbx t v=v:=by
  cases v <;> first | rfl | simp [GV.ok] at h
@[simp] theorem zB3 (i:Nat):zag [] i=.junk:=rfl
@[simp] theorem zBi (v:GV) (l:List GV):zag (v::l) 0=v:=rfl
@[simp] theorem zBj (v:GV) (l:List GV) (i:Nat):zag (v::l) (i+1)=zag l i:=by simp [zag,List.getD]
section
variable (k:IntKind) (x y:Int)
theorem zwj:zjf .eql k x y=some (.bool (decide (x=y))):=by simp only [zjf]; congr 2
theorem zwk:zjf .neq k x y=some (.bool (decide (x≠y))):=by
 have:(x != y)=decide (x≠y):=by rw [Bool.eq_iff_iff]; simp
 simp only [zjf,this]
theorem zwl:zjf .lss k x y=some (.bool (decide (x<y))):=rfl
theorem zwm:zjf .leq k x y=some (.bool (decide (x≤y))):=rfl
theorem zwn:zjf .gtr k x y=some (.bool (decide (y<x))):=rfl
theorem zwo:zjf .geq k x y=some (.bool (decide (y≤x))):=rfl
theorem zwp:zjf .add k x y=some (.int k (k.wrap (x+y))):=rfl
theorem zwq:zjf .sub k x y=some (.int k (k.wrap (x - y))):=rfl
theorem zwr:zjf .mul k x y=some (.int k (k.wrap (x * y))):=rfl
end
theorem zws (k:IntKind) (x y:Int):∀ {op:BinOp},(match op with | .shl | .shr=>false | _=>true)=true→zsv op (.int k x) (.int k y)=zjf op k x y:=by
 intro op h
 cases op <;> simp_all [zsv]
theorem zwt (k k':IntKind) (x y:Int):zsv .shl (.int k x) (.int k' y)=zhL .shl k x y:=rfl
theorem zwu (k k':IntKind) (x y:Int):zsv .shr (.int k x) (.int k' y)=zhL .shr k x y:=rfl
theorem zwv (op:BinOp) (x y:ByteArray):zsv op (.str x) (.str y)=zg7 op x y:=rfl
theorem zlQ (x y:ByteArray):(x.toList == y.toList)=decide (x=y):=by
 rw [Bool.eq_iff_iff]
 simp only [beq_iff_eq,decide_eq_true_eq]
 constructor
 ·intro h
  rw [ByteArray.toList_eq,ByteArray.toList_eq] at h
  cases x; cases y
  simp only at h
  rw [Array.ext' h]
 ·intro h; rw [h]
theorem zww (x y:ByteArray):zg7 .eql x y=some (.bool (decide (x=y))):=by simp only [zg7,zlQ]
theorem zwx (x y:ByteArray):zg7 .neq x y=some (.bool (decide (x≠y))):=by simp only [zg7,zlQ,decide_not]
theorem zyv (b:Bool):gUn .not (.bool b)=some (.bool !b):=rfl
theorem zyw (k:IntKind) (n:Int):gUn .neg (.int k n)=some (.int k (k.wrap (0 - n))):=rfl
theorem zp5 (cs:List GV) (off sz:Nat):zbP cs off sz false=cs[off]?:=rfl
theorem zp6 (cs:List GV) (off sz:Nat):zbP cs off sz true=if off+sz≤cs.length then some (.agg ((cs.drop off).take sz)) else none:=rfl
theorem zts (a b:Bool):zba .bool (.bool a) (.bool b)=some (a == b):=rfl
theorem zwy (k k':IntKind) (a b:Int):zba (.int k') (.int k a) (.int k b)=some (a == b):=by show (if k=k then _ else _)=_; rw [if_pos rfl]
theorem zwz (a b:ByteArray):zba .str (.str a) (.str b)=some (decide (a=b)):=by
 show some (a == b)=_
 congr 1
 obtain ⟨a⟩:=a; obtain ⟨b⟩:=b
 have:((⟨a⟩:ByteArray) == ⟨b⟩)=(a == b):=rfl
 rw [this,Bool.eq_iff_iff]; simp
theorem zni:zba .ptr .nilptr .nilptr=some true:=rfl
theorem znj (i o:Nat):zba .ptr .nilptr (.ptr i o)=some false:=rfl
theorem znk (i o:Nat):zba .ptr (.ptr i o) .nilptr=some false:=rfl
theorem zp7:zba .slice .nilsl .nilsl=some true:=rfl
theorem zp8 (a:Nat) (b:List GV) (c:Tag):zba .slice .nilsl (.sl a b c)=some false:=rfl
theorem zp9 (a:Nat) (b:List GV) (c:Tag):zba .slice (.sl a b c) .nilsl=some false:=rfl
theorem zqa:zba .iface .niliface .niliface=some true:=rfl
theorem zqb (t:Nat) (v:GV):zba .iface .niliface (.iface t v)=some false:=rfl
theorem zqc (t:Nat) (v:GV):zba .iface (.iface t v) .niliface=some false:=rfl
theorem zqd:zba .func .nilfunc .nilfunc=some true:=rfl
theorem zqe (f:Nat) (x y:List GV):zba .func .nilfunc (.func f x y)=some false:=rfl
theorem zqf (f:Nat) (x y:List GV):zba .func (.func f x y) .nilfunc=some false:=rfl
attribute [simp] zyg zti zpQ zv9 zwa zpR zyi zyj
 zyk ztj zwc zwd zwe zyl ztk zpS zwf zlD zpT zlE zlF zlG zpU zm5 zkj
 ziS ziT ziU zpV zpW zpX zlH zf1 zkk zkl zkm zkn zko zkp zif ziV
 zlI zm6 zm7 ziW zpY zlJ ztl zm8 zm9 ztm znc ztn znd zne znf zlM zlN
 zwg zlO zng zp0 zwh znh zlP zp1 ztq zp2 zp3
 zp4 ztr zah zws zwt zwu zwv zww zwx zyv zyw zp5 zp6
 zts zwy zwz zni znj znk zp7 zp8 zp9 zqa zqb zqc zqd zqe zqf
 zwj zwk zwl zwm zwn zwo zwp zwq zwr
 ztc zte ztd zv5 ztf zna znb zpZ
section
variable (k:IntKind) (n:Int) (a:Nat) (xs ys:List GV) (t:Tag) (s:ByteArray) (v:GV)
@[simp] theorem zDz (b:Bool):(GV.bool b).ok=true:=rfl
@[simp] theorem zDS:(GV.int k n).ok=true:=rfl
@[simp] theorem zDT:(GV.str s).ok=true:=rfl
@[simp] theorem zBk:GV.nilptr.ok=true:=rfl
@[simp] theorem zDU (o:Nat):(GV.ptr a o).ok=true:=rfl
@[simp] theorem zB4:GV.nilsl.ok=true:=rfl
@[simp] theorem zEj:(GV.sl a xs t).ok=true:=rfl
@[simp] theorem zDV (b c d:Nat) (e:Bool):(GV.hsl a b c d e).ok=true:=rfl
@[simp] theorem zBl:GV.nilmap.ok=true:=rfl
@[simp] theorem zDW:(GV.map a).ok=true:=rfl
@[simp] theorem zze:GV.nilfunc.ok=true:=rfl
@[simp] theorem zDA:(GV.func a xs ys).ok=true:=rfl
@[simp] theorem zyx:GV.niliface.ok=true:=rfl
@[simp] theorem zB5:(GV.iface a v).ok=true:=rfl
@[simp] theorem zDX:(GV.agg xs).ok=true:=rfl
@[simp] theorem zDY:(GV.tup xs).ok=true:=rfl
@[simp] theorem zEk (o:Nat):(GV.el xs o).ok=true:=rfl
@[simp] theorem zDB:oks []=true:=rfl
@[simp] theorem zwA (x:GV) (l:List GV):oks (x::l)=(x.ok&&oks l):=rfl
@[simp] theorem zzf (b:Bool):(GV.bool b).cells=[.bool b]:=rfl
@[simp] theorem zBm:(GV.int k n).cells=[.int k n]:=rfl
@[simp] theorem zBn:(GV.str s).cells=[.str s]:=rfl
@[simp] theorem zxg:GV.nilptr.cells=[.nilptr]:=rfl
@[simp] theorem zBo (o:Nat):(GV.ptr a o).cells=[.ptr a o]:=rfl
@[simp] theorem zyy:GV.nilsl.cells=[.nilsl]:=rfl
@[simp] theorem zB6:(GV.sl a xs t).cells=[.sl a xs t]:=rfl
@[simp] theorem zBp (b c d:Nat) (e:Bool):(GV.hsl a b c d e).cells=[.hsl a b c d e]:=rfl
@[simp] theorem zxh:GV.nilmap.cells=[.nilmap]:=rfl
@[simp] theorem zBq:(GV.map a).cells=[.map a]:=rfl
@[simp] theorem zwB:GV.nilfunc.cells=[.nilfunc]:=rfl
@[simp] theorem zzg:(GV.func a xs ys).cells=[.func a xs ys]:=rfl
@[simp] theorem zun:GV.niliface.cells=[.niliface]:=rfl
@[simp] theorem zyz:(GV.iface a v).cells=[.iface a v]:=rfl
@[simp] theorem zBr:(GV.agg xs).cells=xs:=rfl
@[simp] theorem zB7 (b:Bool):(GV.bool b).one=true:=rfl
@[simp] theorem zDC:(GV.int k n).one=true:=rfl
@[simp] theorem zDD:(GV.str s).one=true:=rfl
@[simp] theorem zzh:GV.nilptr.one=true:=rfl
@[simp] theorem zDE (o:Nat):(GV.ptr a o).one=true:=rfl
@[simp] theorem zBs:GV.nilsl.one=true:=rfl
@[simp] theorem zDZ:(GV.sl a xs t).one=true:=rfl
@[simp] theorem zDF (b c d:Nat) (e:Bool):(GV.hsl a b c d e).one=true:=rfl
@[simp] theorem zzi:GV.nilmap.one=true:=rfl
@[simp] theorem zDG:(GV.map a).one=true:=rfl
@[simp] theorem zyA:GV.nilfunc.one=true:=rfl
@[simp] theorem zB8:(GV.func a xs ys).one=true:=rfl
@[simp] theorem zxi:GV.niliface.one=true:=rfl
@[simp] theorem zBt:(GV.iface a v).one=true:=rfl
@[simp] theorem zB9:v.flat=v.cells.all GV.one:=rfl
end
inductive App (H:GH) (sz:Nat):GV→List GV→Prop
 | nil:App H sz .nilsl []
 | exact (xs:List GV):App H sz (.sl sz xs .exact) xs
 | tok {t pos:Nat} {ty:Option Nat} (xs:List GV) (h:H.toks[t]?=some pos) (hb:H.bt≤t):App H sz (.sl sz xs (.tok t pos ty)) xs
theorem App.ok {H:GH} {sz:Nat} {s:GV} {xs:List GV} (h:App H sz s xs):s.ok=true:=by cases h <;> rfl
theorem App.objs {H:GH} {sz:Nat} {s:GV} {xs:List GV} (h:App H sz s xs) (o:List GObj):App { H with objs:=o } sz s xs:=by
 cases h with
 | nil=>exact .nil
 | exact=>exact .exact _
 | tok _ h hb=>exact .tok _ h hb
def zen:GV→Option Nat
 | .sl _ _ (.tok t _ _)=>some t
 | _=>none
structure TokStep (own:Option Nat) (H H':GH):Prop where
 objs:H'.objs=H.objs
 bo:H'.bo=H.bo
 bt:H'.bt=H.bt
 len:H.toks.length≤H'.toks.length
 tok:∀ t p,own≠some t→H.toks[t]?=some p→H'.toks[t]?=some p
theorem TokStep.refl (own:Option Nat) (H:GH):TokStep own H H:=⟨rfl,rfl,rfl,Nat.le_refl _,fun _ _ _ h=>h⟩
def Heir (H:GH) (a b:GV):Prop:=zen b=zen a∨∀ t,zen b=some t→H.toks.length≤t
theorem TokStep.andThen {a b:GV} {H H1 H2:GH} (h:TokStep (zen a) H H1) (hh:Heir H a b) (h':TokStep (zen b) H1 H2):TokStep (zen a) H H2 :=
 ⟨h'.objs.trans h.objs,h'.bo.trans h.bo,h'.bt.trans h.bt,Nat.le_trans h.len h'.len,fun t p hne hp=>h'.tok t p (fun e=>by
   rcases hh with hh | hh
   ·exact hne (hh ▸ e)
   ·have:=hh t e
    have:=(List.getElem?_eq_some_iff.1 hp).1
    omega) (h.tok t p hne hp)⟩
theorem Heir.andThen {a b c:GV} {H H1:GH} (hh:Heir H a b) (hl:H.toks.length≤H1.toks.length) (h':Heir H1 b c):Heir H a c:=by
 rcases h' with h' | h'
 ·rcases hh with hh | hh
  ·exact .inl (h'.trans hh)
  ·exact .inr fun t e=>hh t (h' ▸ e)
 ·exact .inr fun t e=>Nat.le_trans hl (h' t e)
theorem zf2 {H:GH} {ty sz bytes:Nat} {s x:GV} {xs ys:List GV} (ha:App H sz s xs) (hn:zbK sz x=some ys) (hbt:H.bt≤H.toks.length) (h1:(xs.length+ys.length) * bytes≤room) (h2:xs.length+ys.length≤maxLen) :
 ∃ s' H',zaU H ty sz bytes s x=some (s',H')∧App H' sz s' (xs++ys)∧TokStep (zen s) H H'∧Heir H s s':=by
 unfold zaU
 rw [hn]
 simp only [Option.bind_some]
 cases ha with
 | nil =>
  simp only [List.length_nil,Nat.zero_add] at h1 h2
  by_cases hy:ys.isEmpty=true
  ·have:ys=[]:=by simpa using hy
   subst this
   exact ⟨.nilsl,H,by simp,.nil,.refl _ _,.inl rfl⟩
  ·simp only [hy,if_false,Bool.false_eq_true]
   rw [if_pos ⟨h1,h2⟩]
   refine ⟨_,_,rfl,.tok _ (by simp) hbt,⟨rfl,rfl,rfl,by simp,fun t p _ h=>?_⟩,.inr fun t h=>?_⟩
   ·rw [List.getElem?_append_left (List.getElem?_eq_some_iff.1 h).1]; exact h
   ·simp only [zen,Option.some.injEq] at h; omega
 | exact =>
  simp only [ne_eq,not_true_eq_false,reduceCtorEq,or_self,if_false]
  by_cases hy:ys.isEmpty=true
  ·have:ys=[]:=by simpa using hy
   subst this
   exact ⟨_,H,by simp,by simpa using App.exact xs,.refl _ _,.inl rfl⟩
  ·simp only [hy,if_false,Bool.false_eq_true]
   rw [if_pos ⟨h1,h2⟩]
   refine ⟨_,_,rfl,.tok _ (by simp) hbt,⟨rfl,rfl,rfl,by simp,fun t p _ h=>?_⟩,.inr fun t h=>?_⟩
   ·rw [List.getElem?_append_left (List.getElem?_eq_some_iff.1 h).1]; exact h
   ·simp only [zen,Option.some.injEq] at h; omega
 | @tok t pos ty' _ ht hb =>
  simp only [ne_eq,not_true_eq_false,reduceCtorEq,or_self,if_false]
  by_cases hy:ys.isEmpty=true
  ·have:ys=[]:=by simpa using hy
   subst this
   exact ⟨_,H,by simp,by simpa using App.tok xs ht hb,.refl _ _,.inl rfl⟩
  ·simp only [hy,if_false,Bool.false_eq_true]
   rw [if_pos ⟨h1,h2⟩,if_pos ⟨ht,hb⟩]
   have hlt:t<H.toks.length:=(List.getElem?_eq_some_iff.1 ht).1
   refine ⟨_,_,rfl,.tok _ (by simp [hlt]) hb,⟨rfl,rfl,rfl,by simp,fun t' p hne h=>?_⟩,.inl rfl⟩
   rw [List.getElem?_set_ne (by intro e; exact hne (by simp [zen,e]))]
   exact h
theorem zdN {H:GH} {ty sz bytes id len:Nat} {ag:Bool} {cs news:List GV} {x:GV} (ho:H.objs[id]?=some (.row ty cs)) (hn:zbK sz x=some news) (hl:cs.length=len * sz) (hb:H.bo≤id) (h1:(len+news.length) * bytes≤room) (h2:len+news.length≤maxLen) (h3:news≠[]) :
 zaU H ty sz bytes (.hsl id 0 len sz ag) x=some (.hsl H.objs.length 0 (len+news.length) sz ag,{ H with objs:=H.objs.set id .dead++[.row ty (cs++news.flatMap GV.cells)] }):=by
 unfold zaU
 rw [hn]
 simp only [Option.bind_some,ho]
 rw [if_pos ⟨trivial,trivial,trivial,hl,hb,h1,h2,by cases news with | nil=>exact absurd rfl h3 | cons _ _=>rfl⟩]
structure Grown (sz:Nat) (H:GH) (s:GV) (zs:List GV) (H':GH) (s':GV):Prop where
 app:App H' sz s' zs
 step:TokStep (zen s) H H'
 heir:Heir H s s'
theorem Grown.refl {sz:Nat} {H:GH} {s:GV} {xs:List GV} (h:App H sz s xs):Grown sz H s xs H s:=⟨h,.refl _ _,.inl rfl⟩
theorem Grown.trans {sz:Nat} {H H1 H2:GH} {s s1 s2:GV} {xs ys:List GV} (h:Grown sz H s xs H1 s1) (h':Grown sz H1 s1 ys H2 s2):Grown sz H s ys H2 s2 :=
 ⟨h'.app,h.step.andThen h.heir h'.step,h.heir.andThen h.step.len h'.heir⟩
theorem Grown.ok {sz:Nat} {H H1:GH} {s s1:GV} {xs:List GV} (h:Grown sz H s xs H1 s1):s1.ok=true:=h.app.ok
theorem TokStep.btle {own:Option Nat} {H H':GH} (h:TokStep own H H') (hb:H.bt≤H.toks.length):H'.bt≤H'.toks.length:=by
 rw [h.bt]; exact Nat.le_trans hb h.len
theorem TokStep.trans {own:Option Nat} {H H1 H2:GH} (h:TokStep own H H1) (h':TokStep own H1 H2):TokStep own H H2 :=
 ⟨h'.objs.trans h.objs,h'.bo.trans h.bo,h'.bt.trans h.bt,Nat.le_trans h.len h'.len,fun t p hne hp=>h'.tok t p hne (h.tok t p hne hp)⟩
theorem TokStep.any {own:Option Nat} {H H':GH} (h:TokStep none H H'):TokStep own H H' :=
 ⟨h.objs,h.bo,h.bt,h.len,fun t p _ hp=>h.tok t p (by simp) hp⟩
theorem zbL {H:GH} {ty sz bytes:Nat} {s x:GV} {xs ys:List GV} (ha:App H sz s xs) (hn:zbK sz x=some ys) (hbt:H.bt≤H.toks.length) (h1:(xs.length+ys.length) * bytes≤room) (h2:xs.length+ys.length≤maxLen) :
 ∃ s' H',zaU H ty sz bytes s x=some (s',H')∧Grown sz H s (xs++ys) H' s':=by
 obtain ⟨s',H',a,b,c,d⟩:=zf2 ha hn hbt h1 h2
 exact ⟨s',H',a,b,c,d⟩
inductive Elems (sz:Nat):GV→List GV→Prop
 | nil:Elems sz .nilsl []
 | sl (xs:List GV) (t:Tag):Elems sz (.sl sz xs t) xs
theorem App.elems {H:GH} {sz:Nat} {s:GV} {xs:List GV} (h:App H sz s xs):Elems sz s xs:=by cases h <;> constructor
theorem Elems.ok {sz:Nat} {s:GV} {xs:List GV} (h:Elems sz s xs):s.ok=true:=by cases h <;> rfl
theorem Elems.news {sz:Nat} {s:GV} {xs:List GV} (h:Elems sz s xs):zbK sz s=some xs:=by cases h <;> simp [zbK]
theorem Elems.len {sz:Nat} {s:GV} {xs:List GV} (h:Elems sz s xs) (call:Nat→List GV→GH→Option (GV × GH)) (l:List GV) (g:Nat) (H:GH):zao call .lensl [s] ⟨l,g⟩ H=some ⟨.int .i64 xs.length,none,H,g⟩:=by cases h <;> rfl
theorem Elems.b2s {s:GV} {xs:List GV} (h:Elems 1 s xs) (call:Nat→List GV→GH→Option (GV × GH)) (l:List GV) (g:Nat) (H:GH):zao call .b2s [s] ⟨l,g⟩ H=zcc ((zcM xs).map fun l=>.str ⟨l.toArray⟩) g H:=by cases h <;> rfl
theorem Elems.cells {sz:Nat} {s:GV} {xs:List GV} (h:Elems sz s xs):s.cells=[s]:=by cases h <;> rfl
theorem Elems.one {sz:Nat} {s:GV} {xs:List GV} (h:Elems sz s xs):s.one=true:=by cases h <;> rfl
theorem Elems.is_sl {sz:Nat} {s:GV} {xs:List GV} (h:Elems sz s xs) {i:Nat} {x:GV} (hx:xs[i]?=some x):∃ t,s=.sl sz xs t:=by
 cases h with
 | nil=>simp at hx
 | sl xs t=>exact ⟨t,rfl⟩
theorem Elems.cut {sz:Nat} {s:GV} {xs:List GV} (h:Elems sz s xs) {lo hi mx:Bool} {bs:List GV} {a b:Nat} {m:Option Nat} (hb:zaO xs.length lo hi mx bs=some (a,b,m)) :
 ∃ s',(∀ (call:Nat→List GV→GH→Option (GV × GH)) (l:List GV) (g:Nat) (H:GH),zao call (.slsl sz lo hi mx) (s::bs) ⟨l,g⟩ H=some ⟨s',none,H,g⟩)∧Elems sz s' ((xs.drop a).take (b - a)):=by
 cases h with
 | nil=>exact ⟨.nilsl,fun call l g H=>by rw [zf1]; simp only [List.length_nil] at hb; rw [hb]; rfl,by simpa using Elems.nil⟩
 | sl xs t=>exact ⟨.sl sz _ _,fun call l g H=>by rw [zlH,hb]; rfl,.sl _ _⟩
structure Mods (ids:Nat→Prop) (H H':GH):Prop where
 bo:H'.bo=H.bo
 bt:H'.bt=H.bt
 olen:H.objs.length≤H'.objs.length
 obj:∀ j,j<H.objs.length→¬ ids j→H'.objs[j]?=H.objs[j]?
 tlen:H.toks.length≤H'.toks.length
 tok:∀ (t p:Nat),H.toks[t]?=some p→H'.toks[t]?=some p
theorem Mods.refl (ids:Nat→Prop) (H:GH):Mods ids H H:=⟨rfl,rfl,Nat.le_refl _,fun _ _ _=>rfl,Nat.le_refl _,fun _ _ h=>h⟩
theorem Mods.trans {ids:Nat→Prop} {H H1 H2:GH} (h:Mods ids H H1) (h':Mods ids H1 H2):Mods ids H H2 :=
 ⟨h'.bo.trans h.bo,h'.bt.trans h.bt,Nat.le_trans h.olen h'.olen,fun j hj hn=>(h'.obj j (Nat.lt_of_lt_of_le hj h.olen) hn).trans (h.obj j hj hn),Nat.le_trans h.tlen h'.tlen,fun t p hp=>h'.tok t p (h.tok t p hp)⟩
theorem Mods.btle {ids:Nat→Prop} {H H':GH} (h:Mods ids H H') (hb:H.bt≤H.toks.length):H'.bt≤H'.toks.length:=by
 rw [h.bt]; exact Nat.le_trans hb h.tlen
theorem Mods.set (H:GH) (i:Nat) (o:GObj):Mods (·=i) H { H with objs:=H.objs.set i o } :=
 ⟨rfl,rfl,by simp,fun j _ hn=>by simp only; rw [List.getElem?_set_ne (by intro e; exact hn e.symm)],Nat.le_refl _,fun _ _ h=>h⟩
theorem Mods.new (ids:Nat→Prop) (H:GH) (o:GObj):Mods ids H (H.newObj o) :=
 ⟨rfl,rfl,by simp [GH.newObj],fun j hj _=>by simp only [GH.newObj]; rw [List.getElem?_append_left hj],Nat.le_refl _,fun _ _ h=>h⟩
theorem obj_set {H:GH} {i:Nat} {o o':GObj} (h:H.objs[i]?=some o):(H.objs.set i o')[i]?=some o':=by
 have:=(List.getElem?_eq_some_iff.1 h).1
 simp [this]
theorem zam {n:Int} (h1 : -9223372036854775808≤n) (h2:n≤9223372036854775807):IntKind.i64.wrap n=n:=by rw [IntKind.wrap_i64]; omega
theorem zhm {n:Int} (h1:0≤n) (h2:n≤255):IntKind.u8.wrap n=n:=by rw [IntKind.wrap_u8]; omega
def optW {α:Type} (o:Option α) (K:α→Prop):Prop:=∃ v,o=some v∧K v
section
variable {α β:Type}
@[simp] theorem ztt (v:α) (K:α→Prop):optW (some v) K↔K v:=⟨fun ⟨_,h,k⟩=>by injection h with h; exact h ▸ k,fun h=>⟨v,rfl,h⟩⟩
@[simp] theorem zBu (K:α→Prop):optW none K↔False:=⟨fun ⟨_,h,_⟩=>(by cases h),fun h=>False.elim h⟩
theorem optW.mono {o:Option α} {K K':α→Prop} (h:optW o K) (hk:∀ v,K v→K' v):optW o K':=let ⟨v,h1,h2⟩:=h; ⟨v,h1,hk v h2⟩
theorem optW.mk {o:Option α} {v:α} {K:α→Prop} (h:o=some v) (hk:K v):optW o K:=⟨v,h,hk⟩
theorem optW.eq {o:Option α} {v:α} (h:optW o fun r=>r=v):o=some v:=by
 obtain ⟨w,h1,rfl⟩:=h; exact h1
theorem optW.get {o:Option α} {K:α→Prop} (h:optW o K):∃ v,o=some v∧K v:=h
end
def zzj (k:St→Option (GExit × St)) (K:GExit × St→Prop) (p:GExit × St):Prop :=
 match p with
 | (.normal,s)=>optW (k s) K
 | p=>K p
@[simp] theorem zig (s:St) (k:St→Option (GExit × St)) (K:GExit × St→Prop):zzj k K (.normal,s)↔optW (k s) K:=.rfl
@[simp] theorem zCa (s:St) (k:St→Option (GExit × St)) (K:GExit × St→Prop):zzj k K (.ret,s)↔K (.ret,s):=.rfl
@[simp] theorem zBv (i:Nat) (s:St) (k:St→Option (GExit × St)) (K:GExit × St→Prop):zzj k K (.exit i,s)↔K (.exit i,s):=.rfl
def zoe (id:Nat) (K:GExit × St→Prop) (p:GExit × St):Prop :=
 match p with
 | (.exit i,s)=>if i=id then K (.normal,s) else K (.exit i,s)
 | p=>K p
@[simp] theorem zwC (id:Nat) (s:St) (K:GExit × St→Prop):zoe id K (.normal,s)↔K (.normal,s):=.rfl
@[simp] theorem zzk (id:Nat) (s:St) (K:GExit × St→Prop):zoe id K (.ret,s)↔K (.ret,s):=.rfl
@[simp] theorem znl (id i:Nat) (s:St) (K:GExit × St→Prop):zoe id K (.exit i,s)↔if i=id then K (.normal,s) else K (.exit i,s):=.rfl
def zCb (k:St→Option (GV × GH)) (K:GV × GH→Prop) (p:GExit × St):Prop :=
 match p with
 | (.normal,s) | (.ret,s)=>optW (k s) K
 | _=>False
@[simp] theorem zyB (s:St) (k:St→Option (GV × GH)) (K:GV × GH→Prop):zCb k K (.normal,s)↔optW (k s) K:=.rfl
@[simp] theorem zCc (s:St) (k:St→Option (GV × GH)) (K:GV × GH→Prop):zCb k K (.ret,s)↔optW (k s) K:=.rfl
def zEl (K:GExit × St→Prop) (s:St):Prop:=K (.normal,s)
@[simp] theorem zCd (K:GExit × St→Prop) (l:List GV) (g:Nat) (H:GH):zEl K ⟨⟨l,g⟩,H⟩↔K (.normal,⟨⟨l,g⟩,H⟩):=.rfl
theorem zay (r:Option (GExit × St)) (k:St→Option (GExit × St)) (K:GExit × St→Prop):optW (zv6 r k) K↔optW r (zzj k K):=by
 cases r with
 | none=>simp
 | some p =>
  obtain ⟨r,s1⟩:=p
  cases r <;> simp
theorem zar (id:Nat) (r:Option (GExit × St)) (K:GExit × St→Prop):optW (zie id r) K↔optW r (zoe id K):=by
 cases r with
 | none=>simp
 | some p =>
  obtain ⟨r,s1⟩:=p
  cases r with
  | exit i =>
   simp only [zm4,ztt,znl]
   split <;> simp
  | normal=>simp
  | ret=>simp
theorem zab (r:Option (GExit × St)) (k:St→Option (GV × GH)) (K:GV × GH→Prop):optW (zlC r k) K↔optW r (zCb k K):=by
 cases r with
 | none=>simp
 | some p =>
  obtain ⟨r,s1⟩:=p
  cases r with
  | exit i=>simp [zlC,zCb]
  | normal=>simp
  | ret=>simp
section
variable {T:Nat→Option IFun}
def zD0 (rs:List IRes) (s:St):Option (GV × GH):=(zaz s rs).map fun v=>(v,s.H)
def zD1 (rs:List IRes) (H:GH) (s:St):Option (GV × GH):=(zaz s rs).bind fun v=>(zaI H.objs.length H.toks.length 100 v).map fun v=>(v,H)
def zEm (rs:List IRes) (H:GH) (s:St):Option (GV × GH):=(zaz s rs).bind fun v=>if plain 100 v=true then some (v,H) else none
theorem zad {f:Nat} {F:IFun} (hF:T f=some F) {args:List GV} {H:GH} (hm:F.mode=0) (hn:args.length≤F.nt):ecall T f args H=zlC (erun T F.body ⟨⟨args,0⟩,H⟩) (zD0 F.results):=by
 rw [zki hF,if_neg (by omega),if_neg (by omega),if_neg (by omega),if_neg (by omega)]
 rfl
def GH.over (H:GH):GH:={ H with bo:=H.objs.length,bt:=H.toks.length }
@[simp] theorem GH.over_objs (H:GH):H.over.objs=H.objs:=rfl
@[simp] theorem GH.over_toks (H:GH):H.over.toks=H.toks:=rfl
@[simp] theorem zzl (a b n:Nat) (x:Bool):zaI a b (n+1) (.bool x)=some (.bool x):=rfl
@[simp] theorem zBw (a b n:Nat) (k:IntKind) (x:Int):zaI a b (n+1) (.int k x)=some (.int k x):=rfl
@[simp] theorem zBx (a b n:Nat) (x:ByteArray):zaI a b (n+1) (.str x)=some (.str x):=rfl
@[simp] theorem zxj (a b n:Nat):zaI a b (n+1) .nilptr=some .nilptr:=rfl
@[simp] theorem zyC (a b n:Nat):zaI a b (n+1) .nilsl=some .nilsl:=rfl
@[simp] theorem zuo (a b n:Nat):zaI a b (n+1) .niliface=some .niliface:=rfl
theorem zci {f:Nat} {F:IFun} (hF:T f=some F) {args:List GV} {H:GH} (hm:F.mode=1) (hn:args.length≤F.nt):ecall T f args H=zlC (erun T F.body ⟨⟨args,0⟩,H.over⟩) (zD1 F.results H):=by
 rw [zki hF,if_neg (by omega),if_neg (by omega),if_pos hm]
 rfl
theorem zc4 {f:Nat} {F:IFun} (hF:T f=some F) {args:List GV} {H:GH} (hm:10≤F.mode) (hn:args.length≤F.nt):ecall T f args H=ziz F args H:=by
 rw [zki hF,if_neg (by omega),if_pos hm]
def zeo (v:GV):Option GV:=if v.ok=true then some v else none
theorem ztu (l:List GV) (g:Nat) (H:GH) (t:Nat):zkb ⟨⟨l,g⟩,H⟩ (.slot t)=zeo (zag l t):=rfl
theorem ztv (l:List GV) (g:Nat) (H:GH) (t sz:Nat) (ag:Bool):zkb ⟨⟨l,g⟩,H⟩ (.cell t sz ag)=zdD ⟨l,g⟩ H sz ag (zbx t (zag l t)):=rfl
theorem zwD {v:GV} (h:v.ok=true):zeo v=some v:=if_pos h
section
variable (k:IntKind) (n:Int) (a:Nat) (xs ys:List GV) (t:Tag) (s:ByteArray) (v:GV)
@[simp] theorem zzm (b:Bool):zeo (.bool b)=some (.bool b):=rfl
@[simp] theorem zBy:zeo (.int k n)=some (.int k n):=rfl
@[simp] theorem zBz:zeo (.str s)=some (.str s):=rfl
@[simp] theorem zxk:zeo .nilptr=some .nilptr:=rfl
@[simp] theorem zBA (o:Nat):zeo (.ptr a o)=some (.ptr a o):=rfl
@[simp] theorem zyD:zeo .nilsl=some .nilsl:=rfl
@[simp] theorem zCe:zeo (.sl a xs t)=some (.sl a xs t):=rfl
@[simp] theorem zBB (b c d:Nat) (e:Bool):zeo (.hsl a b c d e)=some (.hsl a b c d e):=rfl
@[simp] theorem zxl:zeo .nilmap=some .nilmap:=rfl
@[simp] theorem zBC:zeo (.map a)=some (.map a):=rfl
@[simp] theorem zwE:zeo .nilfunc=some .nilfunc:=rfl
@[simp] theorem zzn:zeo (.func a xs ys)=some (.func a xs ys):=rfl
@[simp] theorem zup:zeo .niliface=some .niliface:=rfl
@[simp] theorem zyE:zeo (.iface a v)=some (.iface a v):=rfl
@[simp] theorem zBD:zeo (.agg xs)=some (.agg xs):=rfl
end
theorem zlR (s:St):zaz s []=some (.tup []):=rfl
theorem zqg (s:St) (a:IRes):zaz s [a]=zkb s a:=by
 unfold zaz
 cases h:zkb s a <;> simp [h]
theorem zqh (s:St) (a b:IRes):zaz s [a,b]=(zkb s a).bind fun x=>(zkb s b).map fun y=>.tup [x,y]:=by
 unfold zaz
 cases h:zkb s a <;> cases h':zkb s b <;> simp [h,h']
theorem zqi (s:St) (a b c:IRes):zaz s [a,b,c]=(zkb s a).bind fun x=>(zkb s b).bind fun y=>(zkb s c).map fun z=>.tup [x,y,z]:=by
 unfold zaz
 cases h:zkb s a <;> cases h':zkb s b <;> cases h'':zkb s c <;> simp [h,h',h'']
theorem zyF (e:Env) (H:GH) (sz:Nat) (ag:Bool) (s g o:Nat):zdD e H sz ag (.laddr s g o)=zlK (zag e.s s) g fun cs=>zbP cs o sz ag:=by
 simp only [zdD,zef,zlK]
 generalize zag e.s s=v
 cases v <;> try rfl
 rename_i g1 cs
 by_cases h:g1=g <;> simp [h]
theorem zyG (e:Env) (H:GH) (sz:Nat) (ag:Bool) (i o:Nat):zdD e H sz ag (.ptr i o)=zoc (H.objs[i]?) fun cs=>zbP cs o sz ag:=rfl
attribute [simp] ztu ztv zwD zlR zqg zqh zqi zyF zyG
@[simp] theorem zCf (rs:List IRes) (l:List GV) (g:Nat) (H:GH):zD0 rs ⟨⟨l,g⟩,H⟩=(zaz ⟨⟨l,g⟩,H⟩ rs).map fun v=>(v,H):=rfl
@[simp] theorem zCg (rs:List IRes) (H0:GH) (l:List GV) (g:Nat) (H:GH):zD1 rs H0 ⟨⟨l,g⟩,H⟩=(zaz ⟨⟨l,g⟩,H⟩ rs).bind fun v=>(zaI H0.objs.length H0.toks.length 100 v).map fun v=>(v,H0):=rfl
@[simp] theorem zCh (rs:List IRes) (H0:GH) (l:List GV) (g:Nat) (H:GH):zEm rs H0 ⟨⟨l,g⟩,H⟩=(zaz ⟨⟨l,g⟩,H⟩ rs).bind fun v=>if plain 100 v=true then some (v,H0) else none:=rfl
end
variable [Facts]
inductive Shape where
 | bool
 | int (k:IntKind)
 | str
 | slice (e:Shape)
 | row (ss:List Shape)
mutual
def Shape.size:Shape→Nat
 | .row ss=>Shape.sizes ss
 | _=>1
def Shape.sizes:List Shape→Nat
 | []=>0
 | s::ss=>s.size+Shape.sizes ss
end
def zof (P:Program):Nat→List Field→List Shape→Bool
 | o,f::fs,s::ss=>f.offset == o&&P.cellsOf f.type == s.size&&zof P (o+s.size) fs ss
 | _,[],[]=>true
 | _,_,_=>false
def zbT (P:Program):Nat→TypeId→Option Shape
 | 0,_=>none
 | n+1,t=>match P.underlying t with
  | some .bool=>some .bool
  | some (.int k)=>some (.int k)
  | some .string=>some .str
  | some (.slice e)=>(zbT P n e).bind fun s=>if P.cellsOf e=s.size∧0<s.size then some (.slice s) else none
  | some (.struct fs)=>(fs.toList.mapM fun f=>zbT P n f.type).bind fun ss=>if zof P 0 fs.toList ss=true∧P.cellsOf t=Shape.sizes ss then some (.row ss) else none
  | some (.array m e)=>(zbT P n e).bind fun s=>if P.cellsOf e=s.size∧P.cellsOf t=m * s.size then some (.row (List.replicate m s)) else none
  | _=>none
def mkG:Shape→List GV→GV
 | .row _,cs=>.agg cs
 | _,cs=>cs.headD .junk
def zfj:Nat:=140737488351232
inductive Fits:Shape→List GV→Prop
 | bool (b:Bool):Fits .bool [.bool b]
 | int (k:IntKind) (n:Int) (h:k.min≤n∧n≤k.max):Fits (.int k) [.int k n]
 | str (s:ByteArray) (h:s.size≤zfj):Fits .str [.str s]
 | nilsl (e:Shape):Fits (.slice e) [.nilsl]
 | sl (e:Shape) (css:List (List GV)) (h:∀ cs∈css,Fits e cs) (hl:css.length≤maxLen):Fits (.slice e) [.sl e.size (css.map (mkG e)) .imm]
 | rnil:Fits (.row []) []
 | rcons (s:Shape) (ss:List Shape) (a b:List GV) (h:Fits s a) (h':Fits (.row ss) b):Fits (.row (s::ss)) (a++b)
theorem Fits.len {s:Shape} {cs:List GV} (h:Fits s cs):cs.length=s.size:=by
 induction h with
 | rcons s ss a b h h' ih ih'=>simp only [List.length_append,ih,ih',Shape.size,Shape.sizes]
 | _=>rfl
theorem Fits.one {s:Shape} {cs:List GV} (h:Fits s cs):∀ c∈cs,c.one=true∧c.ok=true:=by
 induction h with
 | rnil=>intro c hc; cases hc
 | rcons s ss a b h h' ih ih' =>
  intro c hc
  rcases List.mem_append.1 hc with h | h
  ·exact ih c h
  ·exact ih' c h
 | _=>intro c hc; simp only [List.mem_singleton] at hc; subst hc; exact ⟨rfl,rfl⟩
theorem Fits.cells {s:Shape} {cs:List GV} (h:Fits s cs):(mkG s cs).cells=cs:=by
 cases h <;> rfl
theorem Fits.flat {s:Shape} {cs:List GV} (h:Fits s cs):(mkG s cs).flat=true:=by
 simp only [GV.flat,h.cells,List.all_eq_true]
 exact fun c hc=>(h.one c hc).1
theorem Fits.ok {s:Shape} {cs:List GV} (h:Fits s cs):(mkG s cs).ok=true:=by
 cases h <;> rfl
section
variable {P:Program} {ro:Nat} {W:World} {H:Type} {enc:TypeId × Value→H}
def CRl (K:Ctx) (gs:List GV) (cs:List Value):Prop:=gs.length=cs.length∧∀ (i:Nat) g v,gs[i]?=some g→cs[i]?=some v→VR K g v
theorem CRl.append {K:Ctx} {a b:List GV} {x y:List Value} (h:CRl K a x) (h':CRl K b y):CRl K (a++b) (x++y):=by
 refine ⟨by simp [h.1,h'.1],fun i g v hg hv=>?_⟩
 by_cases hi:i<a.length
 ·rw [List.getElem?_append_left hi] at hg
  rw [List.getElem?_append_left (by rw [← h.1]; exact hi)] at hv
  exact h.2 i g v hg hv
 ·rw [List.getElem?_append_right (by omega)] at hg
  rw [List.getElem?_append_right (by rw [← h.1]; omega),← h.1] at hv
  exact h'.2 _ g v hg hv
theorem CRl.single {K:Ctx} {g:GV} {v:Value} (h:VR K g v):CRl K [g] [v]:=by
 refine ⟨rfl,fun i g' v' hg hv=>?_⟩
 cases i with
 | zero=>simp at hg hv; subst hg; subst hv; exact h
 | succ i=>simp at hg
def zqj (P:Program) (t:TypeId) (d:DataW H):Prop:=∀ n∈d.weights P t,n≤zfj
theorem zfk {P:Program} {e:TypeId} {n:Nat} {d:DataW H} : ∀ {ds:List (DataW H)},d∈ds→n∈d.weights P e→n∈DataW.weightsAll P e ds
 | x::ds,hd,hn=>by
  rw [DataW.weightsAll]
  rcases List.mem_cons.1 hd with rfl | hd
  ·exact List.mem_append.2 (.inl hn)
  ·exact List.mem_append.2 (.inr (zfk hd hn))
theorem zgT {P:Program} {n:Nat} {d:DataW H} {t:TypeId} : ∀ {ts:List TypeId} {ds:List (DataW H)} {i:Nat},ts[i]?=some t→ds[i]?=some d→n∈d.weights P t→n∈DataW.weightsEach P ts ds
 | u::ts,x::ds,i,ht,hd,hn=>by
  rw [DataW.weightsEach]
  cases i with
  | zero =>
   simp at ht hd; subst ht; subst hd
   exact List.mem_append.2 (.inl hn)
  | succ i =>
   simp at ht hd
   exact List.mem_append.2 (.inr (zgT ht hd hn))
 | [],_,_,ht,_,_=>by simp at ht
 | _::_,[],_,_,hd,_=>by simp at hd
theorem zqk:∀ (n:Nat) (t:TypeId) (s:Shape),zbT P n t=some s→∀ (fuel:Nat) (cs:List Value) (x:DataW H × List MemPlace),DataW.trod enc P W 0 (fun _=>true) true fuel t cs=some x→zqj P t x.1 →
 ∃ gs,Fits s gs∧CRl (zbF ro W) gs cs:=by
 intro n
 induction n with
 | zero=>intro t s hs; simp [zbT] at hs
 | succ n ih =>
  intro t s hs fuel cs x hx hLt
  rw [zbT] at hs
  cases hu:P.underlying t with
  | none=>simp [hu] at hs
  | some d =>
   rw [hu] at hs
   cases d <;> simp only [reduceCtorEq] at hs <;> try (cases hs; done)
   case bool =>
    injection hs with hs; subst hs
    obtain ⟨b,rfl,_⟩:=DataW.trod_bool hu hx
    exact ⟨_,.bool b,.single (.bool b)⟩
   case int k =>
    injection hs with hs; subst hs
    obtain ⟨m,rfl,_,hw⟩:=DataW.trod_int hu hx
    simp only [Lit.wf,Bool.and_eq_true,decide_eq_true_eq] at hw
    exact ⟨_,.int k m hw,.single (.int k m)⟩
   case string =>
    injection hs with hs; subst hs
    obtain ⟨m,rfl,rfl,hw⟩:=DataW.trod_string hu hx
    have:=hLt m.data.toList.length (by simp [DataW.weights])
    exact ⟨_,.str m (by simpa using this),.single (.str m)⟩
   case slice e =>
    simp only [Option.bind_eq_some_iff] at hs
    obtain ⟨se,he,hs⟩:=hs
    split at hs
    ·rename_i hsz
     injection hs with hs; subst hs
     rcases DataW.trod_slice hu hx with ⟨rfl,_⟩ | ⟨a,len,cap,elems,rest,m,rfl,rfl,rfl,hb,hl,hm,hlen,hel,hsp,_⟩
     ·exact ⟨_,.nilsl se,.single .nilsl⟩
     ·obtain ⟨hrl,hre⟩:=hsp rfl
      by_cases hc:cap=0
      ·have hl0:len=0:=by omega
       subst hc; subst hl0
       exact ⟨_,.sl se [] (fun x hx=>by cases hx) (Nat.zero_le _),.single (.emp a (.inl rfl))⟩
      ·have first:∃ v0,W.cell? a=some v0:=by
        have h0:∃ y,(W.cells? 0 (a.add 0) (P.cellsOf e)).bind (DataW.trod enc P W 0 (fun _=>true) true m e)=some y:=by
         by_cases hl0:0<len
         ·have:=hel 0 hl0
          rw [Nat.zero_mul,List.getElem?_eq_getElem (by omega)] at this
          exact ⟨_,this⟩
         ·have:=hre 0 (by omega)
          have e0:len=0:=by omega
          rw [e0,Nat.zero_add,Nat.zero_mul,List.getElem?_eq_getElem (by omega)] at this
          exact ⟨_,this⟩
        obtain ⟨y,hy⟩:=h0
        simp only [Option.bind_eq_some_iff] at hy
        obtain ⟨cs0,hcs0,_⟩:=hy
        obtain ⟨_,hcl,hcc⟩:=World.cells?_some hcs0
        have h1:=hcc 0 (by omega)
        rw [List.getElem?_eq_getElem (by omega)] at h1
        exact ⟨_,by simpa [Addr.add] using h1⟩
       obtain ⟨v0,hv0⟩:=first
       have hspot:=World.cell?_spot hv0
       have hblk:a.block<W.heap.size:=by
        simp only [World.cell?] at hv0
        split at hv0
        ·rename_i hh
         by_cases hlt:a.block<W.heap.size
         ·exact hlt
         ·rw [Array.getElem?_eq_none (by omega)] at hh; cases hh
        ·cases hv0
       obtain ⟨b,off,spot⟩:=a
       simp only at hspot hblk
       subst hspot
       have each:∀ i,i<len→∃ gs:List GV,Fits se gs∧∀ (j:Nat) g,gs[j]?=some g→∃ v,W.cell? ⟨b,off+i * se.size+j,none⟩=some v∧VR (zbF ro W) g v:=by
        intro i hi
        have h1:=hel i hi
        rw [List.getElem?_eq_getElem (by omega)] at h1
        simp only [Option.bind_eq_some_iff] at h1
        obtain ⟨csi,hcsi,hti⟩:=h1
        obtain ⟨_,hcl,hcc⟩:=World.cells?_some hcsi
        have hlt':zqj P e (elems[i]).1:=fun n hn=>hLt n (by
         simp only [DataW.weights,hu]
         exact List.mem_cons_of_mem _ (List.mem_append.2 (.inl (zfk (List.mem_map_of_mem (List.getElem_mem _)) hn))))
        obtain ⟨gs,hf,hr⟩:=ih e se he m csi _ hti hlt'
        refine ⟨gs,hf,fun j g hg=>?_⟩
        have hj:j<gs.length:=(List.getElem?_eq_some_iff.1 hg).1
        have hj2:j<csi.length:=by rw [← hr.1]; exact hj
        refine ⟨csi[j], ?_,hr.2 j g _ hg (List.getElem?_eq_getElem hj2)⟩
        have h2:=hcc j (by omega)
        rw [List.getElem?_eq_getElem hj2,hsz.1] at h2
        rw [← h2]
        congr 1
        simp only [zch]
       have each':∀ i,∃ gs:List GV,i<len→Fits se gs∧∀ (j:Nat) g,gs[j]?=some g→∃ v,W.cell? ⟨b,off+i * se.size+j,none⟩=some v∧VR (zbF ro W) g v:=by
        intro i
        by_cases hi:i<len
        ·obtain ⟨gs,h⟩:=each i hi; exact ⟨gs,fun _=>h⟩
        ·exact ⟨[],fun h=>absurd h hi⟩
       have hax:=Classical.axiomOfChoice each'
       obtain ⟨gsf,hgs⟩:=hax
       have hxl:((List.range len).map fun i=>mkG se (gsf i)).length=len:=by simp
       have hget:∀ (i:Nat) x,((List.range len).map fun i=>mkG se (gsf i))[i]?=some x→i<len∧x=mkG se (gsf i):=by
        intro i x hx
        have hi:i<len:=by rw [← hxl]; exact (List.getElem?_eq_some_iff.1 hx).1
        rw [List.getElem?_map,List.getElem?_range hi] at hx
        simp at hx
        exact ⟨hi,hx.symm⟩
       have hmm:((List.range len).map gsf).map (mkG se)=(List.range len).map fun i=>mkG se (gsf i):=by rw [List.map_map]; rfl
       refine ⟨_,.sl se ((List.range len).map gsf) (fun x hx=>?_) (by simp; omega),.single ?_⟩
       ·obtain ⟨i,hi,rfl⟩:=List.mem_map.1 hx
        exact (hgs i (List.mem_range.1 hi)).1
       ·rw [hmm]
        have:=VR.sl (K:=zbF ro W) (sz:=se.size) (xs:=(List.range len).map fun i=>mkG se (gsf i)) (tag:=.imm) (b:=b) (off:=off) (cap:=cap) (cv:=fun i j=>(W.cell? ⟨b,off+i * se.size+j,none⟩).getD undef) (by rw [hxl]; exact hl) hm
         (fun x hx=>by
           obtain ⟨i,hi⟩:=List.mem_iff_getElem?.1 hx
           obtain ⟨h1,rfl⟩:=hget i x hi
           have hf:=(hgs i h1).1
           exact ⟨by rw [hf.cells,hf.len],hf.flat⟩)
         (fun i x j c hx hc=>by
           obtain ⟨h1,rfl⟩:=hget i x hx
           obtain ⟨hf,hfc⟩:=hgs i h1
           rw [hf.cells] at hc
           obtain ⟨v,hv,_⟩:=hfc j c hc
           exact ⟨ztR hblk,by show W.cell? _=_; rw [hv]; rfl⟩)
         (fun i x j c hx hc=>by
           obtain ⟨h1,rfl⟩:=hget i x hx
           obtain ⟨hf,hfc⟩:=hgs i h1
           rw [hf.cells] at hc
           obtain ⟨v,hv,hr⟩:=hfc j c hc
           simp only [hv,Option.getD_some]
           exact hr)
         trivial
        rw [hxl] at this
        exact this
    ·cases hs
   case struct fs =>
    simp only [Option.bind_eq_some_iff] at hs
    obtain ⟨ss,hss,hs⟩:=hs
    split at hs
    ·rename_i hok
     injection hs with hs; subst hs
     obtain ⟨xs,m,rfl,rfl,hcl,hxl,hfl⟩:=DataW.trod_struct hu hx
     have go:∀ (l:List Field) (o:Nat) (ss:List Shape),(∀ f∈l,∃ y,DataW.trod enc P W 0 (fun _=>true) true m f.type ((cs.drop f.offset).take (P.cellsOf f.type))=some y∧zqj P f.type y.1)→l.mapM (fun f=>zbT P n f.type)=some ss→zof P o l ss=true→o+Shape.sizes ss=cs.length →
      ∃ gs,Fits (.row ss) gs∧CRl (zbF ro W) gs (cs.drop o):=by
      intro l
      induction l with
      | nil =>
       intro o ss _ hm ho hl
       simp at hm
       subst hm
       simp only [Shape.sizes] at hl
       exact ⟨[],.rnil,by rw [List.drop_of_length_le (by omega)]; exact ⟨rfl,fun i g v hg=>by simp at hg⟩⟩
      | cons f l ihl =>
       intro o ss hall hm ho hl
       rw [List.mapM_cons] at hm
       cases hf:zbT P n f.type with
       | none=>simp [hf] at hm
       | some s1 =>
        cases hls:l.mapM (fun f=>zbT P n f.type) with
        | none=>simp [hf,hls] at hm
        | some ss1 =>
         simp [hf,hls] at hm
         subst hm
         simp only [zof,Bool.and_eq_true,beq_iff_eq] at ho
         obtain ⟨⟨ho1,ho2⟩,ho3⟩:=ho
         simp only [Shape.sizes] at hl
         obtain ⟨y,hy,hly⟩:=hall f (by simp)
         obtain ⟨g1,f1,r1⟩:=ih f.type s1 hf m _ _ hy hly
         obtain ⟨g2,f2,r2⟩:=ihl (o+s1.size) ss1 (fun f' hf'=>hall f' (by simp [hf'])) hls ho3 (by omega)
         rw [ho1,ho2] at r1
         refine ⟨g1++g2,.rcons _ _ _ _ f1 f2, ?_⟩
         have:=r1.append r2
         rw [← List.drop_drop,List.take_append_drop] at this
         exact this
     have hall:∀ f∈fs.toList,∃ y,DataW.trod enc P W 0 (fun _=>true) true m f.type ((cs.drop f.offset).take (P.cellsOf f.type))=some y∧zqj P f.type y.1:=by
      intro f hf
      obtain ⟨i,hi⟩:=List.mem_iff_getElem?.1 hf
      have hi':fs[i]?=some f:=by simpa using hi
      have hlt:i<fs.size:=(Array.getElem?_eq_some_iff.1 hi').1
      have:=hfl i f hi'
      rw [List.getElem?_eq_getElem (by omega)] at this
      refine ⟨_,this,fun n hn=>hLt n ?_⟩
      simp only [DataW.weights,hu]
      exact zgT (i:=i) (t:=f.type) (d:=xs[i].1) (by simp [hi']) (by simp [List.getElem?_eq_getElem (show i<xs.length by omega)]) hn
     obtain ⟨gs,h1,h2⟩:=go fs.toList 0 ss hall hss hok.1 (by rw [hcl,hok.2]; omega)
     exact ⟨gs,h1,by simpa using h2⟩
    ·cases hs
   case array m e =>
    simp only [Option.bind_eq_some_iff] at hs
    obtain ⟨se,he,hs⟩:=hs
    split at hs
    ·rename_i hok
     injection hs with hs; subst hs
     obtain ⟨xs,q,rfl,rfl,hcl,hxl,hfl⟩:=DataW.trod_array hu hx
     have go:∀ k j,j+k=m→∃ gs,Fits (.row (List.replicate k se)) gs∧CRl (zbF ro W) gs (cs.drop (j * se.size)):=by
      intro k
      induction k with
      | zero =>
       intro j hj
       refine ⟨[],.rnil, ?_⟩
       have:j=m:=by omega
       subst this
       rw [List.drop_of_length_le (by rw [hcl,hok.2]; exact Nat.le_refl _)]
       exact ⟨rfl,fun i g v hg=>by simp at hg⟩
      | succ k ihk =>
       intro j hj
       have h1:=hfl j (by omega)
       rw [List.getElem?_eq_getElem (by omega),hok.1] at h1
       have hlt':zqj P e (xs[j]'(by omega)).1:=fun n hn=>hLt n (by
        simp only [DataW.weights,hu]
        exact zfk (List.mem_map_of_mem (List.getElem_mem _)) hn)
       obtain ⟨g1,f1,r1⟩:=ih e se he q _ _ h1 hlt'
       obtain ⟨g2,f2,r2⟩:=ihk (j+1) (by omega)
       refine ⟨g1++g2,.rcons _ _ _ _ f1 f2, ?_⟩
       have:=r1.append r2
       rw [Nat.add_mul,Nat.one_mul,← List.drop_drop,List.take_append_drop] at this
       exact this
     obtain ⟨gs,h1,h2⟩:=go m 0 (by omega)
     exact ⟨gs,h1,by simpa using h2⟩
    ·cases hs
end
end Go.Sh
namespace Go.Sh
variable [Facts]
open Go.ChangeShapes Go.WideShapes Go.RowKit
inductive ArgsFit:List Shape→List GV→Prop
 | nil:ArgsFit [] []
 | cons {s:Shape} {ss:List Shape} {cs gs:List GV} (h:Fits s cs) (t:ArgsFit ss gs):ArgsFit (s::ss) (mkG s cs::gs)
theorem ArgsFit.oks {ss:List Shape} {gs:List GV} (h:ArgsFit ss gs):oks gs=true:=by
 induction h with
 | nil=>rfl
 | cons h t ih=>rw [zwA,ih,h.ok]; rfl
theorem ztw {α:Type} {e:Shape} {f:α→GV} {p:α→Prop} (he:∀ c,Fits e c→∃ a,mkG e c=f a∧p a) {cs:List GV} (h:Fits (.slice e) cs) :
 ∃ L:List α,Elems e.size (mkG (.slice e) cs) (L.map f)∧(∀ a∈L,p a)∧L.length≤maxLen:=by
 cases h with
 | nilsl=>exact ⟨[],.nil,(fun _ h=>by cases h),Nat.zero_le _⟩
 | sl _ css hx hl =>
  have:∀ l:List (List GV),(∀ c∈l,Fits e c)→∃ L:List α,l.map (mkG e)=L.map f∧(∀ a∈L,p a)∧L.length=l.length:=by
   intro l
   induction l with
   | nil=>intro _; exact ⟨[],rfl,(fun _ h=>by cases h),rfl⟩
   | cons c l ih =>
    intro hl
    obtain ⟨a,h1,h2⟩:=he c (hl c (by simp))
    obtain ⟨L,h3,h4,h5⟩:=ih (fun c' hc'=>hl c' (by simp [hc']))
    refine ⟨a::L,by simp [h1,h3],fun b hb=>?_,by simp [h5]⟩
    rcases List.mem_cons.1 hb with rfl | hb
    ·exact h2
    ·exact h4 b hb
  obtain ⟨L,h1,h2,h3⟩:=this css hx
  exact ⟨L,by show Elems _ (.sl _ _ _) _; rw [h1]; exact .sl _ _,h2,by omega⟩
section
variable {P:Program} {ro:Nat} {W:World} {H:Type} {enc:TypeId × Value→H}
theorem zwF {n:Nat} {t:TypeId} {s:Shape} (hs:zbT P n t=some s) {b0:Nat} {v:Value} {d:DataW H} {ps:List MemPlace} (hval:Value.okWide P W .any b0 t v) (hd:DataW.Trod enc P W 0 (fun _=>true) true t v d ps) (hlt:zqj P t d) :
 ∃ cs,Fits s cs∧VR (zbF ro W) (mkG s cs) v:=by
 obtain ⟨fuel,hf⟩:=hd
 obtain ⟨gs,h1,h2⟩:=zqk (ro:=ro) n t s hs fuel _ _ hf hlt
 refine ⟨gs,h1, ?_⟩
 have atom:∀ {u:Value},v=u→u.cells = #[u]→gs.length=1→VR (zbF ro W) (gs.headD .junk) v:=by
  intro u hu hc hl
  subst hu
  rw [hc] at h2
  match gs,hl with
  | [g],_=>exact h2.2 0 g v rfl rfl
 cases n with
 | zero=>simp [zbT] at hs
 | succ n =>
  rw [zbT] at hs
  cases hu:P.underlying t with
  | none=>simp [hu] at hs
  | some dd =>
   rw [hu] at hs
   cases dd <;> simp only [reduceCtorEq] at hs <;> try (cases hs; done)
   case bool =>
    injection hs with hs; subst hs
    obtain ⟨b,hb⟩:=okWide_bool hu hval
    exact atom hb rfl h1.len
   case int k =>
    injection hs with hs; subst hs
    obtain ⟨b,hb⟩:=okWide_int hu hval
    exact atom hb rfl h1.len
   case string =>
    injection hs with hs; subst hs
    obtain ⟨b,hb⟩:=okWide_string hu hval
    exact atom hb rfl h1.len
   case slice e =>
    simp only [Option.bind_eq_some_iff] at hs
    obtain ⟨se,he,hs⟩:=hs
    split at hs
    ·injection hs with hs; subst hs
     obtain ⟨a,len,cap,hb⟩:=okWide_slice hu hval
     exact atom hb rfl h1.len
    ·cases hs
   case struct fs =>
    simp only [Option.bind_eq_some_iff] at hs
    obtain ⟨ss,he,hs⟩:=hs
    split at hs
    ·injection hs with hs; subst hs
     obtain ⟨cs,rfl,_⟩:=okWide_struct hu hval
     exact .agg (by simpa [Value.cells] using h2.1) (fun i c v hc hv=>h2.2 i c v hc (by simpa [Value.cells] using hv))
    ·cases hs
   case array m e =>
    simp only [Option.bind_eq_some_iff] at hs
    obtain ⟨ss,he,hs⟩:=hs
    split at hs
    ·injection hs with hs; subst hs
     simp only [Value.okWide,hu] at hval
     obtain ⟨cs,rfl,_⟩:=hval
     exact .agg (by simpa [Value.cells] using h2.1) (fun i c v hc hv=>h2.2 i c v hc (by simpa [Value.cells] using hv))
    ·cases hs
theorem ztx {n:Nat} : ∀ (ts:List TypeId) (ss:List Shape),ts.mapM (zbT P n)=some ss→∀ (vs:List Value) (ds:List (DataW H)) (ps:List MemPlace),(∀ (j:Nat) t v,ts[j]?=some t→vs[j]?=some v→∃ b0,Value.okWide P W .any b0 t v) →
 DataW.TrodAll enc P W 0 (fun _=>true) true ts vs ds ps→(∀ n∈DataW.weightsEach P ts ds,n≤zfj)→∃ gs,ArgsFit ss gs∧CRl (zbF ro W) gs vs:=by
 intro ts
 induction ts with
 | nil =>
  intro ss hss vs ds ps _ hd _
  simp at hss; subst hss
  obtain ⟨rfl,_,_⟩:=trodAll_nil hd
  exact ⟨[],.nil,rfl,fun i g v hg=>by simp at hg⟩
 | cons t ts ih =>
  intro ss hss vs ds ps hok hd hlt
  rw [List.mapM_cons] at hss
  cases hs:zbT P n t with
  | none=>simp [hs] at hss
  | some s =>
   cases hts:ts.mapM (zbT P n) with
   | none=>simp [hs,hts] at hss
   | some ss' =>
    simp [hs,hts] at hss
    subst hss
    obtain ⟨v,vs',d,ds',p,q,rfl,rfl,rfl,h1,h2⟩:=trodAll_cons hd
    obtain ⟨b0,hv⟩:=hok 0 t v rfl rfl
    obtain ⟨cs,c1,c2⟩:=zwF (ro:=ro) hs hv h1 (fun n hn=>hlt n (by rw [DataW.weightsEach]; exact List.mem_append.2 (.inl hn)))
    obtain ⟨gs,g1,g2⟩:=ih ss' hts vs' ds' q (fun j t' v' ht hv'=>hok (j+1) t' v' (by simpa using ht) (by simpa using hv')) h2 (fun n hn=>hlt n (by rw [DataW.weightsEach]; exact List.mem_append.2 (.inr hn)))
    exact ⟨_,.cons c1 g1,(CRl.single c2).append g2⟩
theorem zkq (hl:laidOutB P=true) {W':World} {sp:Nat→Bool} : ∀ (ts:List TypeId),ts.all (fun t=>P.readableRec t&&decide (t<P.types.size))=true→∀ (vs:List Value) (ds:List (DataW H)) (ps:List MemPlace),
 DataW.TrodAll enc P W 0 (fun _=>true) true ts vs ds ps→(∀ p∈ps,W.sameAt W' p)→(∀ p∈ps,sp p.block=true)→DataW.TrodAll enc P W' 0 sp true ts vs ds ps:=by
 intro ts
 induction ts with
 | nil =>
  intro _ vs ds ps h _ _
  obtain ⟨rfl,rfl,rfl⟩:=trodAll_nil h
  rfl
 | cons t ts ih =>
  intro ha vs ds ps h hsame hsp
  simp only [List.all_cons,Bool.and_eq_true,decide_eq_true_eq] at ha
  obtain ⟨v,vs',d,ds',p,q,rfl,rfl,rfl,h1,h2⟩:=trodAll_cons h
  exact ⟨p,q,WideElems.Trod_stays hl ha.1.1 ha.1.2 h1 (fun x hx=>hsame x (by simp [hx])) (fun x hx=>hsp x (by simp [hx])),ih ha.2 vs' ds' q h2 (fun x hx=>hsame x (by simp [hx])) (fun x hx=>hsp x (by simp [hx])),rfl⟩
variable {T:Nat→Option IFun}
theorem zlS (hm:P.follows .mixedOrders=true) (hT:zcq P T) (hl:laidOutB P=true) {fid:FuncId} {F:IFun} (hF:T fid=some F) (h10:F.mode<10) {f:Func} {s:ChangeSpec} {ss:List Shape} {n:Nat} {tb:TypeId}
 (hread:f.params.toList.all (fun t=>P.readableRec t&&decide (t<P.types.size))=true)
 (hshape:f.params.toList.mapM (zbT P n)=some ss) (hres:f.resultTypes = #[tb]) (hb:P.underlying tb=some .bool) (hvars:s.vars=[])
 {apart:Bool} {base:Nat} {args:Array Value} {ds gs:List (DataW H)} {before:List MemPlace}
 (hfn:s.fn H (ds++gs)={ results:=[.lit (.bool true)],args:=ds })
 (law:∀ gargs,ArgsFit ss gargs→∃ H',ecall T fid gargs (zl3 P.globals.size)=some (.bool true,H'))
 (hval:∀ (j:Nat) t v,f.params[j]?=some t→args[j]?=some v→Value.okWide P W .any base t v)
 (hD:∀ w':World,(∀ b,b<W.heap.size→w'.heap[b]?=W.heap[b]?)→Facts.D w')
 (hW:DataW.Whole enc P f.params.toList s.vars apart W args.toList ds gs before) (hlt:∀ n∈DataW.weightsEach P f.params.toList ds,n≤zfj) :
 Calls P fid args W fun e W'=>∃ v,e=.returned v∧s.post enc P f apart true false false W args v W':=by
 have hW':=hW
 obtain ⟨p,q,hA,hV,rfl,hfz,hnd⟩:=hW
 rw [hvars] at hV
 obtain ⟨rfl,rfl⟩:=trodVars_none hV
 obtain ⟨gargs,h1,h2⟩:=ztx (ro:=P.globals.size) f.params.toList ss hshape args.toList ds p (fun j t v ht hv=>⟨base,hval j t v (by simpa using ht) (by simpa using hv)⟩) hA hlt
 obtain ⟨H',hcall⟩:=law gargs h1
 have hcr:CR (zbF P.globals.size W) gargs args:=⟨by simpa using h2.1,fun i c v hc hv=>h2.2 i c v hc (by simpa using hv)⟩
 refine (ze2 hm hl hT hF h10 hcall h1.oks (zwQ P.globals.size W hD) hcr).mono fun e W' he=>?_
 obtain ⟨rv,K',rfl,rfl,hr',hv',x⟩:=he
 have hbel:=znr x
 cases hv'
 refine ⟨_,rfl, ?_⟩
 have hlt:∀ y∈p,y.block<W.heap.size:=fun y hy=>by simpa using hW'.lt y (by simp [hy])
 refine ⟨ds,_,_,[],p,[],hW', ?_, ?_, ?_,World.keptBut_mono (fun y hy=>hy.elim) (hbel.frame fun _=>False),fun h=>by cases h⟩
 ·rw [hfn,hres]
  exact trodAll_mk1 (shut_bool hb true)
 ·rw [hfn]
  exact zkq hl _ hread _ _ _ hA (fun y hy=>hbel.same (hlt y hy)) (fun y hy=>by simpa using hlt y hy)
 ·rw [hfn,hvars]; rfl
end
end Go.Sh
namespace Go.Sh
def GV.boxy:GV→Bool
 | .lbox .. | .siter .. => true
 | _=>false
def wr:ICode→List Nat
 | .region ops=>ops.filterMap (·.dst)
 | .seq a b | .cond _ a b=>wr a++wr b
 | .block _ a | .loop a=>wr a
 | _=>[]
def Prim.st:Prim→Bool
 | .store _ | .next=>true
 | _=>false
def zog:ICode→Bool
 | .region ops=>ops.all (fun o=>!o.prim.st)
 | .seq a b | .cond _ a b=>zog a&&zog b
 | .block _ a | .loop a=>zog a
 | _=>true
def FrW (cl:Bool) (ws:List Nat) (l0 l:List GV):Prop:=∀ t,ws.contains t=false→(cl || !(zag l0 t).boxy)=true→zag l t=zag l0 t
abbrev Fr (c:ICode) (l0 l:List GV):Prop:=FrW (zog c) (wr c) l0 l
theorem FrW.refl (cl:Bool) (ws:List Nat) (l:List GV):FrW cl ws l l:=fun _ _ _=>rfl
theorem FrW.trans {cl:Bool} {ws:List Nat} {a b c:List GV} (h:FrW cl ws a b) (h':FrW cl ws b c):FrW cl ws a c:=fun t h1 h2=>by
 have e:=h t h1 h2
 rw [h' t h1 (by rw [e]; exact h2),e]
theorem FrW.mono {cl cl':Bool} {ws ws':List Nat} {a b:List GV} (h:FrW cl ws a b) (hc:cl'=true→cl=true) (hw:∀ t,t∈ws→t∈ws'):FrW cl' ws' a b:=fun t h1 h2=>h t (by
 rw [List.contains_eq_mem,decide_eq_false_iff_not] at *
 exact fun hm=>h1 (hw t hm)) (by
 rw [Bool.or_eq_true] at *
 exact h2.imp hc id)
theorem Fr.get {c:ICode} {l0 l:List GV} (hf:Fr c l0 l) (t:Nat) (h1:(wr c).contains t=false) {v:GV} (h:zag l0 t=v) (hv:(zog c || !v.boxy)=true):zag l t=v:=(hf t h1 (h ▸ hv)).trans h
theorem FrW.lput {cl:Bool} {ws:List Nat} {a b:List GV} (h:FrW cl ws a b) {t:Nat} (ht:t∈ws) (v:GV):FrW cl ws a (lput b t v):=fun u h1 h2=>by
 rw [zah,if_neg]
 ·exact h u h1 h2
 ·rintro rfl
  rw [List.contains_eq_mem,decide_eq_false_iff_not] at h1
  exact h1 ht
theorem FrW.box {cl:Bool} {ws:List Nat} {a b:List GV} (h:FrW cl ws a b) (hc:cl=false) {t:Nat} (hb:(zag b t).boxy=true) (v:GV):FrW cl ws a (Go.Sh.lput b t v):=fun u h1 h2=>by
 rw [zah,if_neg]
 ·exact h u h1 h2
 ·rintro rfl
  have:=h u h1 h2
  rw [hc] at h2
  rw [this] at hb
  rw [hb] at h2; cases h2
theorem zwG {call:Nat→List GV→GH→Option (GV × GH)} {p:Prim} {args:List GV} {e:Env} {H:GH} {f:Eff} (h:zao call p args e H=some f):∀ s v,f.box=some (s,v)→(zag e.s s).boxy=true:=by
 intro s v hb
 cases p <;> simp only [zao] at h
 case store =>
  split at h
  ·split at h
   ·split at h
    ·rename_i s' g off
     simp only [Option.bind_eq_some_iff,Option.map_eq_some_iff] at h
     obtain ⟨cs,h1,cs',_,rfl⟩:=h
     injection hb with hb; injection hb with hb _; subst hb
     unfold zef at h1
     split at h1
     ·rename_i h2; rw [h2]; rfl
     ·cases h1
    ·split at h
     ·split at h
      ·simp only [Option.map_eq_some_iff] at h
       obtain ⟨_,_,rfl⟩:=h; cases hb
      ·cases h
     ·split at h
      ·simp only [Option.map_eq_some_iff] at h
       obtain ⟨_,_,rfl⟩:=h; cases hb
      ·cases h
     ·cases h
    ·cases h
   ·cases h
  ·cases h
 case next =>
  split at h
  ·split at h
   ·rename_i h2
    split at h
    ·split at h
     ·injection h with h; subst h
      injection hb with hb; injection hb with hb _; subst hb
      rw [h2]; rfl
     ·injection h with h; subst h; cases hb
    ·cases h
   ·cases h
  ·cases h
 all_goals
  first
  | (simp only [Option.map_eq_some_iff] at h; obtain ⟨_,_,rfl⟩:=h; cases hb; done)
  | (split at h <;> first | (injection h with h; subst h; cases hb; done) | (cases h; done) | (simp only [Option.map_eq_some_iff] at h; obtain ⟨_,_,rfl⟩:=h; cases hb; done))
  | (split at h <;> try split at h) <;> first | (injection h with h; subst h; cases hb; done) | (cases h; done) | (simp only [Option.map_eq_some_iff] at h; obtain ⟨_,_,rfl⟩:=h; cases hb; done)
theorem zty {call:Nat→List GV→GH→Option (GV × GH)} {p:Prim} {args:List GV} {e:Env} {H:GH} {f:Eff} (h:zao call p args e H=some f) (hp:p.st=false):f.box=none:=by
 cases p <;> simp only [zao] at h
 case store=>cases hp
 case next=>cases hp
 all_goals
  first
  | (simp only [Option.map_eq_some_iff] at h; obtain ⟨_,_,rfl⟩:=h; rfl)
  | (split at h <;> first | (injection h with h; subst h; rfl) | (cases h; done) | (simp only [Option.map_eq_some_iff] at h; obtain ⟨_,_,rfl⟩:=h; rfl))
  | (split at h <;> try split at h) <;> first | (injection h with h; subst h; rfl) | (cases h; done) | (simp only [Option.map_eq_some_iff] at h; obtain ⟨_,_,rfl⟩:=h; rfl)
theorem zBE {call:Nat→List GV→GH→Option (GV × GH)} {o:IOp} {s s':St} (h:gop call o s=some s') {cl:Bool} {ws:List Nat} (hc:cl=true→o.prim.st=false) (hw:∀ t,o.dst=some t→t∈ws) {l0:List GV} (hf:FrW cl ws l0 s.e.s):FrW cl ws l0 s'.e.s:=by
 unfold gop at h
 split at h
 ·cases h
 ·injection h with h; subst h
  cases hd:o.dst with
  | none=>exact hf
  | some t=>exact hf.lput (hw t hd) _
 ·split at h
  ·simp only [Option.map_eq_some_iff] at h
   obtain ⟨f,h1,rfl⟩:=h
   have hb:FrW cl ws l0 (s.e.box f.box).s:=by
    cases hx:f.box with
    | none=>exact hf
    | some p =>
     cases hcl:cl with
     | true =>
      have:=zty h1 (hc hcl)
      rw [hx] at this; cases this
     | false=>rw [hcl] at hf; exact hf.box rfl (zwG h1 p.1 p.2 hx) _
   show FrW cl ws l0 ((s.e.box f.box).put o.dst f.v).s
   cases hd:o.dst with
   | none=>exact hb
   | some t=>exact hb.lput (hw t hd) _
  ·cases h
theorem ztz {call:Nat→List GV→GH→Option (GV × GH)} {cl:Bool} {ws:List Nat} {l0:List GV} : ∀ (ops:List IOp) {s s':St},zbC call ops s=some s'→(cl=true→ops.all (fun o=>!o.prim.st)=true)→(∀ t,t∈ops.filterMap (·.dst)→t∈ws)→FrW cl ws l0 s.e.s→FrW cl ws l0 s'.e.s
 | [],s,s',h,_,_,hf=>by simp only [zbC,Option.some.injEq] at h; subst h; exact hf
 | o::l,s,s',h,hc,hw,hf=>by
  simp only [zbC,Option.bind_eq_some_iff] at h
  obtain ⟨s1,h1,h2⟩:=h
  simp only [List.all_cons,Bool.and_eq_true,Bool.not_eq_true'] at hc
  exact ztz l h2 (fun h=>(hc h).2) (fun t ht=>hw t (by simp only [List.mem_filterMap,List.mem_cons] at *; obtain ⟨a,ha,hb⟩:=ht; exact ⟨a,.inr ha,hb⟩)) (zBE h1 (fun h=>(hc h).1) (fun t ht=>hw t (by simp [ht])) hf)
theorem zwH (T:Nat→Option IFun) {cl:Bool} {ws:List Nat} {l0:List GV} : ∀ n c s r s',zak T n c s=some (r,s')→(cl=true→zog c=true)→(∀ t,t∈wr c→t∈ws)→FrW cl ws l0 s.e.s→FrW cl ws l0 s'.e.s:=by
 intro n
 induction n with
 | zero=>intro c s r s' h; simp [zak] at h
 | succ n ih =>
  intro c s r s' h hc hw hf
  cases c with
  | skip=>simp only [zak,Option.some.injEq,Prod.mk.injEq] at h; obtain ⟨_,rfl⟩:=h; exact hf
  | exit=>simp only [zak,Option.some.injEq,Prod.mk.injEq] at h; obtain ⟨_,rfl⟩:=h; exact hf
  | bump=>simp only [zak,Option.some.injEq,Prod.mk.injEq] at h; obtain ⟨_,rfl⟩:=h; exact hf
  | ret=>simp only [zak,Option.some.injEq,Prod.mk.injEq] at h; obtain ⟨_,rfl⟩:=h; exact hf
  | trap=>simp [zak] at h
  | region ops =>
   simp only [zak,Option.map_eq_some_iff,Prod.mk.injEq] at h
   obtain ⟨s1,h1,_,rfl⟩:=h
   exact ztz ops h1 hc hw hf
  | seq a b =>
   simp only [wr,List.mem_append] at hw
   simp only [zog,Bool.and_eq_true] at hc
   simp only [zak] at h
   split at h
   ·rename_i s1 h1
    exact ih _ _ _ _ h (fun h=>(hc h).2) (fun t ht=>hw t (.inr ht)) (ih _ _ _ _ h1 (fun h=>(hc h).1) (fun t ht=>hw t (.inl ht)) hf)
   ·exact ih _ _ _ _ h (fun h=>(hc h).1) (fun t ht=>hw t (.inl ht)) hf
  | cond c a b =>
   simp only [wr,List.mem_append] at hw
   simp only [zog,Bool.and_eq_true] at hc
   simp only [zak] at h
   split at h
   ·exact ih _ _ _ _ h (fun h=>(hc h).1) (fun t ht=>hw t (.inl ht)) hf
   ·exact ih _ _ _ _ h (fun h=>(hc h).2) (fun t ht=>hw t (.inr ht)) hf
   ·cases h
  | block id a =>
   simp only [zak] at h
   split at h
   ·rename_i id' s1 h1
    split at h <;> (injection h with h; injection h with _ h; subst h; exact ih _ _ _ _ h1 hc hw hf)
   ·exact ih _ _ _ _ h hc hw hf
  | loop a =>
   simp only [zak] at h
   split at h
   ·rename_i s1 h1
    exact ih _ _ _ _ h hc hw (ih _ _ _ _ h1 hc hw hf)
   ·exact ih _ _ _ _ h hc hw hf
section
variable {T:Nat→Option IFun}
theorem znm {c:ICode} {s s':St} {r:GExit} (h:erun T c s=some (r,s')):Fr c s.e.s s'.e.s:=by
 obtain ⟨n,hn⟩:=erun_iff.1 h
 exact zwH T n c s r s' hn (fun h=>h) (fun _ h=>h) (.refl _ _ _)
def zzo (Inv:List GV→Nat→GH→Prop) (K:GExit × St→Prop) (r:GExit × St):Prop :=
 match r with
 | (.normal,⟨⟨l,g⟩,H⟩)=>Inv l g H
 | r=>K r
@[simp] theorem zyH (Inv:List GV→Nat→GH→Prop) (K:GExit × St→Prop) (l:List GV) (g:Nat) (H:GH):zzo Inv K (.normal,⟨⟨l,g⟩,H⟩)↔Inv l g H:=.rfl
@[simp] theorem zCi (Inv:List GV→Nat→GH→Prop) (K:GExit × St→Prop) (s:St):zzo Inv K (.ret,s)↔K (.ret,s):=.rfl
@[simp] theorem zBF (Inv:List GV→Nat→GH→Prop) (K:GExit × St→Prop) (i:Nat) (s:St):zzo Inv K (.exit i,s)↔K (.exit i,s):=.rfl
theorem zeH {L:ICode} {K:GExit × St→Prop} {l0:List GV} (Inv:Nat→List GV→Nat→GH→Prop)
 (hbody:∀ m l g H,Inv m l g H→Fr L l0 l→optW (erun T L ⟨⟨l,g⟩,H⟩) (zzo (fun l' g' H'=>∃ m',m'<m∧Inv m' l' g' H') fun r=>Fr L l0 r.2.e.s→K r)) :
 ∀ m l g H,Inv m l g H→Fr L l0 l→optW (erun T (.loop L) ⟨⟨l,g⟩,H⟩) K:=by
 intro m
 induction m using Nat.strongRecOn with
 | ind m ih =>
  intro l g H hi hf
  rw [zal,zay]
  obtain ⟨⟨r,s'⟩,h1,h2⟩:=hbody m l g H hi hf
  refine ⟨(r,s'),h1, ?_⟩
  have hf':Fr L l0 s'.e.s:=hf.trans (znm h1)
  obtain ⟨⟨l',g'⟩,H'⟩:=s'
  cases r with
  | normal =>
   obtain ⟨m',h3,h4⟩:=h2
   exact ih m' h3 l' g' H' h4 hf'
  | exit i=>exact h2 hf'
  | ret=>exact h2 hf'
def Fr0 (ws:List Nat) (l0 l:List GV):Prop:=∀ t,ws.contains t=false→zag l t=zag l0 t
theorem Fr0.lput {ws:List Nat} {a b:List GV} (h:Fr0 ws a b) {t:Nat} (ht:t∈ws) (v:GV):Fr0 ws a (lput b t v):=fun u h1=>by
 rw [zah,if_neg]
 ·exact h u h1
 ·rintro rfl
  rw [List.contains_eq_mem,decide_eq_false_iff_not] at h1
  exact h1 ht
section
variable {T:Nat→Option IFun}
end
def znn {α:Type} (o:Option GObj) (f:Bool→List Leaf→List (GV × GV)→Option α):Option α :=
 match o with
 | some (.map a l e)=>f a l e
 | _=>none
@[simp] theorem zzp {α:Type} (a:Bool) (l:List Leaf) (e:List (GV × GV)) (f:Bool→List Leaf→List (GV × GV)→Option α):znn (some (.map a l e)) f=f a l e:=rfl
def zyI (z:GV) (ok:Bool) (r:Option GV):GV:=if ok then .tup [r.getD z,.bool r.isSome] else r.getD z
@[simp] theorem zDH (z:GV) (r:Option GV):zyI z false r=r.getD z:=rfl
@[simp] theorem zDI (z:GV) (r:Option GV):zyI z true r=.tup [r.getD z,.bool r.isSome]:=rfl
def zyJ (g:Nat) (v:GV) (o:Option GH):Option Eff:=o.map fun H=>⟨v,none,H,g⟩
@[simp] theorem zzq (g:Nat) (v:GV) (H:GH):zyJ g v (some H)=some ⟨v,none,H,g⟩:=rfl
section
variable {call:Nat→List GV→GH→Option (GV × GH)} {l:List GV} {g:Nat} {H:GH}
theorem zql (ag:Bool) (ls:List Leaf):zao call (.mkmap ag ls) [] ⟨l,g⟩ H=some ⟨.map H.objs.length,none,H.newObj (.map ag ls []),g⟩:=rfl
theorem zqm (ag:Bool) (ls:List Leaf) (z:GV) (ok:Bool) (m k:GV):zao call (.mlook ag ls z ok) [m,k] ⟨l,g⟩ H=zcc ((ze8 H ag ls m k).map (zyI z ok)) g H:=by
 simp only [zao,zcc,Option.map_map]; rfl
theorem ztA (ag:Bool) (ls:List Leaf) (m k v:GV):zao call (.mset ag ls) [m,k,v] ⟨l,g⟩ H=zyJ g .junk (zdh H ag ls m k v):=rfl
theorem ztB (ag:Bool) (ls:List Leaf) (m k:GV):zao call (.mdel ag ls) [m,k] ⟨l,g⟩ H=zyJ g (.tup []) (zka H ag ls m k):=rfl
theorem ztC (ag:Bool) (ls:List Leaf) (k:GV):ze8 H ag ls .nilmap k=if zaA ag ls k=true then some none else none:=rfl
theorem ztD (ag:Bool) (ls:List Leaf) (id:Nat) (k:GV):ze8 H ag ls (.map id) k=znn (H.objs[id]?) fun ag' ls' es=>if ag'=ag∧ls'=ls∧zaA ag ls k=true then some (zaX es k) else none:=by
 simp only [ze8,znn]
 cases H.objs[id]? with
 | none=>rfl
 | some o=>cases o <;> rfl
theorem ztE (ag:Bool) (ls:List Leaf) (id:Nat) (k v:GV):zbb H ag ls (.map id) k v=znn (H.objs[id]?) fun ag' ls' es=>if ag'=ag∧ls'=ls∧zaA ag ls k=true∧v.ok=true∧H.bo≤id then some { H with objs:=H.objs.set id (.map ag ls (zas es k v)) } else none:=by
 simp only [zbb,znn]
 cases H.objs[id]? with
 | none=>rfl
 | some o=>cases o <;> rfl
theorem zwI (ag:Bool) (ls:List Leaf) (m k:GV) (sz:Nat) (xs:List GV) (tag:Tag):zdh H ag ls m k (.sl sz xs tag)=zbb H ag ls m k (.sl sz xs tag):=rfl
theorem zno (ag:Bool) (ls:List Leaf) (m k:GV):zdh H ag ls m k .nilsl=zbb H ag ls m k .nilsl:=rfl
theorem zqn (ag:Bool) (ls:List Leaf) (m k:GV) (b:Bool):zdh H ag ls m k (.bool b)=zbb H ag ls m k (.bool b):=rfl
theorem ztF (ag:Bool) (ls:List Leaf) (m k:GV) (t:IntKind) (n:Int):zdh H ag ls m k (.int t n)=zbb H ag ls m k (.int t n):=rfl
theorem ztG (ag:Bool) (ls:List Leaf) (m k:GV) (cs:List GV):zdh H ag ls m k (.agg cs)=zbb H ag ls m k (.agg cs):=rfl
theorem ztH (ag:Bool) (ls:List Leaf) (m k:GV) (id off len sz:Nat) (x:Bool):zdh H ag ls m k (.hsl id off len sz x)=(zaR H [.hsl id off len sz x]).bind fun r=>zbb r.2 ag ls m k r.1:=rfl
theorem ztI (ag:Bool) (ls:List Leaf) (id:Nat) (k:GV):zka H ag ls (.map id) k=znn (H.objs[id]?) fun ag' ls' es=>if ag'=ag∧ls'=ls∧zaA ag ls k=true∧H.bo≤id then some { H with objs:=H.objs.set id (.map ag ls (zfH es k)) } else none:=by
 simp only [zka,znn]
 cases H.objs[id]? with
 | none=>rfl
 | some o=>cases o <;> rfl
theorem ztJ (x:GV):zao call .boxI [x] ⟨l,g⟩ H=boxK x.ok ⟨.el x.cells 0,none,H,g⟩:=rfl
theorem zep (ty sz bytes:Nat) (x y:GV):zao call (.appendN ty sz bytes) [x,y] ⟨l,g⟩ H=zha (za9 H ty sz bytes x y) g:=rfl
theorem zcJ (ty sz bytes:Nat) (x y:GV):zao call (.appendT ty sz bytes) [x,y] ⟨l,g⟩ H=zha ((zbN H ty sz bytes x y).map fun r=>(r.1,{ H with toks:=r.2 })) g:=by
 simp only [zao,zha,Option.map_map]; rfl
theorem zjw (x:GV):zao call .loadF [x] ⟨l,g⟩ H=zha (zfI H x) g:=rfl
theorem znp (sz:Nat) (z:GV) (args:List GV):zao call (.clearR sz z) args ⟨l,g⟩ H=zha (ze0 H sz z args) g:=rfl
def zBG (n sz:Nat) (cs:List GV) (off:Nat):Option GV:=if 0<sz∧off+n * sz≤cs.length∧((cs.drop off).take (n * sz)).all GV.one=true∧n≤maxLen then some (.sl sz (za4 sz n (cs.drop off)) .exact) else none
theorem zqo (n sz:Nat) (cs:List GV) (off:Nat):zao call (.slarr n sz) [.el cs off] ⟨l,g⟩ H=zcc (zBG n sz cs off) g H:=rfl
end
attribute [simp] zql zqm ztA ztB ztC ztD ztE zwI zno zqn ztF ztG ztH ztI ztJ zqo zep zcJ znp zjw
def Holds:List (Nat × GV)→List GV→Prop
 | [],_=>True
 | p::r,l=>zag l p.1=p.2∧Holds r l
@[simp] theorem zaM (l:List GV):Holds [] l↔True:=.rfl
@[simp] theorem zaB (t:Nat) (v:GV) (r:List (Nat × GV)) (l:List GV):Holds ((t,v)::r) l↔zag l t=v∧Holds r l:=.rfl
theorem Holds.put {t:Nat} {v:GV} : ∀ {r:List (Nat × GV)} {l:List GV},(∀ p∈r,p.1≠t)→Holds r l→Holds r (lput l t v)
 | [],_,_,_=>trivial
 | p::r,l,h,hh=>⟨by rw [zah,if_neg (h p (by simp))]; exact hh.1,Holds.put (fun q hq=>h q (by simp [hq])) hh.2⟩
def zgU (c b I N d:Nat) (B:ICode):ICode :=
 .seq (.region [⟨some c,none,.bin .lss,[.slot I,.slot N],none⟩])
  (.seq (.cond (.slot c) .skip (.exit b)) (.seq B (.region [⟨some d,none,.bin .add,[.slot I,.val (.int .i64 1)],none⟩,⟨some I,none,.id,[.slot d],none⟩])))
theorem za5 {A:Type} (slots:Nat→A→List (Nat × GV)) (P:Nat→A→Nat→GH→Prop) {c b I N d:Nat} {B L:ICode} {K:GExit × St→Prop} {l0:List GV} {n:Nat} (hL:L=zgU c b I N d B) (hn:(n:Int)≤9223372036854775807)
 (hne:c≠I∧c≠N∧d≠I∧d≠N∧I≠N) (hw:(wr B).contains I=false∧(wr B).contains N=false)
 (hs:∀ i a,∀ p∈slots i a,p.1≠c∧p.1≠d∧p.1≠I)
 (hbody:∀ i a l g H,i<n→P i a g H→Holds (slots i a) l→Fr L l0 l→zag l I=.int .i64 i →
   optW (erun T B ⟨⟨l,g⟩,H⟩) (zzo (fun l' g' H'=>Fr B l l'→∃ a',P (i+1) a' g' H'∧Holds (slots (i+1) a') l') fun r=>Fr L l0 r.2.e.s→K r))
 (hexit:∀ a l g H,P n a g H→Holds (slots n a) l→Fr L l0 l→K (.exit b,⟨⟨l,g⟩,H⟩)) :
 ∀ i a l g H,i≤n→P i a g H→Holds (slots i a) l→Fr L l0 l→zag l I=.int .i64 i→zag l N=.int .i64 n→optW (erun T (.loop L) ⟨⟨l,g⟩,H⟩) K:=by
 obtain ⟨e1,e2,e3,e4,e5⟩:=hne
 have hc:c∈wr L:=by rw [hL]; simp [zgU,wr]
 have hd:d∈wr L:=by rw [hL]; simp [zgU,wr]
 have hII:I∈wr L:=by rw [hL]; simp [zgU,wr]
 have hBc:zog L=true→zog B=true:=fun h=>by rw [hL] at h; simp [zgU,zog] at h; exact h.2.1
 have hB:∀ t,t∈wr B→t∈wr L:=fun t ht=>by rw [hL]; simp [zgU,wr]; right; left; exact ht
 intro i
 generalize hk:n - i=k
 induction k generalizing i with
 | zero =>
  intro a l g H hi hP hh hf hI hN
  obtain rfl:i=n:=by omega
  rw [zal]
  rw [hL]
  simp [zgU,hI,hN]
  exact hexit a _ g H hP (hh.put fun p hp=>(hs _ _ p hp).1) (hf.lput hc _)
 | succ k ih =>
  intro a l g H hi hP hh hf hI hN
  have hlt:i<n:=by omega
  have hwr:IntKind.i64.wrap ((i:Int)+1)=(i:Int)+1:=zam (by omega) (by omega)
  rw [zal,zay]
  have hrun:∀ K',optW (erun T B ⟨⟨lput l c (.bool true),g⟩,H⟩) (zzj (fun s=>erun T (.region [⟨some d,none,.bin .add,[.slot I,.val (.int .i64 1)],none⟩,⟨some I,none,.id,[.slot d],none⟩]) s) K')→optW (erun T L ⟨⟨l,g⟩,H⟩) K':=by
   intro K' hk
   rw [hL]
   have hlti:(i:Int)<n:=by omega
   simp [zgU,hI,hN,hlt]
   rw [zay]
   exact hk
  apply hrun
  have hI1:zag (lput l c (.bool true)) I=.int .i64 i:=by rw [zah,if_neg (Ne.symm e1)]; exact hI
  have hN1:zag (lput l c (.bool true)) N=.int .i64 n:=by rw [zah,if_neg (Ne.symm e2)]; exact hN
  have hb:=hbody i a (lput l c (.bool true)) g H hlt hP (hh.put fun p hp=>(hs _ _ p hp).1) (hf.lput hc _) hI1
  obtain ⟨⟨r,s'⟩,h1,h2⟩:=hb
  refine ⟨(r,s'),h1, ?_⟩
  have h3:=znm h1
  have hfB:Fr L l0 s'.e.s:=(hf.lput hc _).trans (h3.mono hBc hB)
  obtain ⟨⟨l',g'⟩,H'⟩:=s'
  cases r with
  | exit j=>exact h2 hfB
  | ret=>exact h2 hfB
  | normal =>
   have hI2:zag l' I=.int .i64 i:=(h3 I hw.1 (by rw [hI1]; simp [GV.boxy])).trans hI1
   have hN2:zag l' N=.int .i64 n:=(h3 N hw.2 (by rw [hN1]; simp [GV.boxy])).trans hN1
   obtain ⟨a',h5,h6⟩:=h2 h3
   rw [zig]
   simp [hI2,hwr]
   refine ih (i+1) (by omega) a' _ g' H' (by omega) h5 ((h6.put fun p hp=>(hs _ _ p hp).2.1).put fun p hp=>(hs _ _ p hp).2.2) ((hfB.lput hd _).lput hII _) ?_ ?_
   ·rw [zah,if_pos rfl]; simp
   ·rw [zah,if_neg (Ne.symm e5),zah,if_neg (Ne.symm e4)]; exact hN2
def zgV (c b I d n:Nat) (B:ICode):ICode :=
 .seq (.region [⟨some c,none,.bin .lss,[.slot I,.val (.int .i64 (n:Int))],none⟩])
  (.seq (.cond (.slot c) .skip (.exit b)) (.seq B (.region [⟨some d,none,.bin .add,[.slot I,.val (.int .i64 1)],none⟩,⟨some I,none,.id,[.slot d],none⟩])))
theorem zeq {A:Type} (slots:Nat→A→List (Nat × GV)) (P:Nat→A→Nat→GH→Prop) {c b I d:Nat} {B L:ICode} {K:GExit × St→Prop} {l0:List GV} {n:Nat} (hL:L=zgV c b I d n B) (hn:(n:Int)≤9223372036854775807)
 (hne:c≠I∧d≠I) (hw:(wr B).contains I=false)
 (hs:∀ i a,∀ p∈slots i a,p.1≠c∧p.1≠d∧p.1≠I)
 (hbody:∀ i a l g H,i<n→P i a g H→Holds (slots i a) l→Fr L l0 l→zag l I=.int .i64 i →
   optW (erun T B ⟨⟨l,g⟩,H⟩) (zzo (fun l' g' H'=>Fr B l l'→∃ a',P (i+1) a' g' H'∧Holds (slots (i+1) a') l') fun r=>Fr L l0 r.2.e.s→K r))
 (hexit:∀ a l g H,P n a g H→Holds (slots n a) l→Fr L l0 l→K (.exit b,⟨⟨l,g⟩,H⟩)) :
 ∀ i a l g H,i≤n→P i a g H→Holds (slots i a) l→Fr L l0 l→zag l I=.int .i64 i→optW (erun T (.loop L) ⟨⟨l,g⟩,H⟩) K:=by
 obtain ⟨e1,e3⟩:=hne
 have hc:c∈wr L:=by rw [hL]; simp [zgV,wr]
 have hd:d∈wr L:=by rw [hL]; simp [zgV,wr]
 have hII:I∈wr L:=by rw [hL]; simp [zgV,wr]
 have hBc:zog L=true→zog B=true:=fun h=>by rw [hL] at h; simp [zgV,zog] at h; exact h.2.1
 have hB:∀ t,t∈wr B→t∈wr L:=fun t ht=>by rw [hL]; simp [zgV,wr]; right; left; exact ht
 intro i
 generalize hk:n - i=k
 induction k generalizing i with
 | zero =>
  intro a l g H hi hP hh hf hI
  obtain rfl:i=n:=by omega
  rw [zal]
  rw [hL]
  simp [zgV,hI]
  exact hexit a _ g H hP (hh.put fun p hp=>(hs _ _ p hp).1) (hf.lput hc _)
 | succ k ih =>
  intro a l g H hi hP hh hf hI
  have hlt:i<n:=by omega
  have hwr:IntKind.i64.wrap ((i:Int)+1)=(i:Int)+1:=zam (by omega) (by omega)
  rw [zal,zay]
  have hrun:∀ K',optW (erun T B ⟨⟨lput l c (.bool true),g⟩,H⟩) (zzj (fun s=>erun T (.region [⟨some d,none,.bin .add,[.slot I,.val (.int .i64 1)],none⟩,⟨some I,none,.id,[.slot d],none⟩]) s) K')→optW (erun T L ⟨⟨l,g⟩,H⟩) K':=by
   intro K' hk
   rw [hL]
   have hlti:(i:Int)<n:=by omega
   simp [zgV,hI,hlt]
   rw [zay]
   exact hk
  apply hrun
  have hI1:zag (lput l c (.bool true)) I=.int .i64 i:=by rw [zah,if_neg (Ne.symm e1)]; exact hI
  have hb:=hbody i a (lput l c (.bool true)) g H hlt hP (hh.put fun p hp=>(hs _ _ p hp).1) (hf.lput hc _) hI1
  obtain ⟨⟨r,s'⟩,h1,h2⟩:=hb
  refine ⟨(r,s'),h1, ?_⟩
  have h3:=znm h1
  have hfB:Fr L l0 s'.e.s:=(hf.lput hc _).trans (h3.mono hBc hB)
  obtain ⟨⟨l',g'⟩,H'⟩:=s'
  cases r with
  | exit j=>exact h2 hfB
  | ret=>exact h2 hfB
  | normal =>
   have hI2:zag l' I=.int .i64 i:=(h3 I hw (by rw [hI1]; simp [GV.boxy])).trans hI1
   obtain ⟨a',h5,h6⟩:=h2 h3
   rw [zig]
   simp [hI2,hwr]
   refine ih (i+1) (by omega) a' _ g' H' (by omega) h5 ((h6.put fun p hp=>(hs _ _ p hp).2.1).put fun p hp=>(hs _ _ p hp).2.2) ((hfB.lput hd _).lput hII _) ?_
   ·rw [zah,if_pos rfl]; simp
structure At {α:Type} (all:List α) (e:α→GV) (sz:Nat) (v:GV) (i:Nat) (x:α):Prop where
 lt:(i:Int)<all.length
 ix:gIx all.length (.int .i64 (i:Int))=some i
 opt:all[i]?=some x
 get:∀ h:i<all.length,all[i]'h=x
 sl:∃ t,v=.sl sz (all.map e) t
 wr:IntKind.i64.wrap ((i:Int)+1)=(i:Int)+1
 mem:x∈all
theorem zeU {α:Type} {all:List α} {e:α→GV} {sz:Nat} {v:GV} (hv:Elems sz v (all.map e)) {i:Nat} (hi:i<all.length) (hn:(all.length:Int)≤9223372036854775807):At all e sz v i (all[i]'hi) where
 lt:=by omega
 ix:=by simp only [gIx]; rw [if_pos (by omega)]; simp
 opt:=List.getElem?_eq_getElem hi
 get:=fun _=>rfl
 sl:=hv.is_sl (i:=i) (x:=e (all[i]'hi)) (by simp [hi])
 wr:=zam (by omega) (by omega)
 mem:=List.getElem_mem hi
theorem Elems.boxy {sz:Nat} {s:GV} {xs:List GV} (h:Elems sz s xs):s.boxy=false:=by cases h <;> rfl
theorem Elems.unb {sz:Nat} {s:GV} {xs:List GV} (h:Elems sz s xs) (t:Nat):zbx t s=s:=by cases h <;> rfl
end
end Go.Sh
