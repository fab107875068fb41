/- Own work: the zaG machine and what it shows, part ShA. -/
import Derived.Calls
import Derived.LoopN
import GoSem.ClaimData
import Derived.Lib.Join
import Derived.Lib.Split
import Derived.Lib.AtoiAll
import Derived.Lib.ItoaNum
import Derived.Lib.IndexMore
import GoSem.ClaimKeys
import Derived.Laws.Entries
import Derived.Laws.Slices
import Derived.Laws.Strings
import Derived.Laws.Cells
import Derived.Laws.StructEq
import Derived.Below
import Derived.Laws.Build
set_option linter.all false
namespace Go.Sh
inductive Tag where
 | imm
 | exact
 | tok (t pos:Nat) (ty:Option Nat)
 deriving DecidableEq
inductive GV where
 | junk
 | bool (b:Bool)
 | int (k:IntKind) (n:Int)
 | str (s:ByteArray)
 | nilptr
 | ptr (id off:Nat)
 | nilsl
 | sl (sz:Nat) (xs:List GV) (tag:Tag)
 | hsl (id off len sz:Nat) (ag:Bool)
 | nilmap
 | map (id:Nat)
 | nilfunc
 | func (f:Nat) (first captured:List GV)
 | niliface
 | iface (t:Nat) (v:GV)
 | agg (cs:List GV)
 | tup (vs:List GV)
 | lbox (g:Nat) (cs:List GV)
 | laddr (slot g off:Nat)
 | el (cs:List GV) (off:Nat)
 | siter (g:Nat) (s:ByteArray) (pos:Nat)
 deriving Inhabited
def GV.cells:GV→List GV
 | .agg cs=>cs
 | v=>[v]
def GV.one:GV→Bool
 | .agg _ | .tup _=>false
 | _=>true
def GV.flat (g:GV):Bool:=g.cells.all GV.one
def GV.ok:GV→Bool
 | .junk | .lbox .. | .laddr .. | .siter .. => false
 | _=>true
def oks (l:List GV):Bool:=l.all GV.ok
def zeY:Nat→Value→Option GV
 | 0,_=>none
 | n+1,v=>match v with
  | .bool b=>some (.bool b)
  | .int k i=>some (.int k i)
  | .string s=>some (.str s)
  | .pointer none=>some .nilptr
  | .slice none 0 0=>some .nilsl
  | .map none=>some .nilmap
  | .nilFunc=>some .nilfunc
  | .nilIface=>some .niliface
  | .agg cs=>(cs.toList.mapM (zeY n)).map .agg
  | _=>none
def zag (l:List GV) (i:Nat):GV:=l.getD i .junk
def lput:List GV→Nat→GV→List GV
 | [],0,v=>[v]
 | [],n+1,v=>.junk::lput [] n v
 | _::l,0,v=>v::l
 | x::l,n+1,v=>x::lput l n v
structure Env where
 s:List GV
 gen:Nat
inductive Leaf where
 | bool | int (k:IntKind) | str | ptr | slice | map | func | iface
 deriving DecidableEq
inductive GObj where
 | cells (t:Nat) (cs:List GV)
 | row (t:Nat) (cs:List GV)
 | map (ag:Bool) (ls:List Leaf) (es:List (GV × GV))
 | dead
 deriving Inhabited
structure GH where
 objs:List GObj
 toks:List Nat
 bo:Nat
 bt:Nat
inductive Src where
 | slot (t:Nat)
 | val (g:GV)
inductive Prim where
 | id
 | pick
 | bin (op:BinOp)
 | eqv (neg:Bool) (ls:List Leaf)
 | eq1 (neg:Bool) (l:Leaf)
 | un (op:UnOp)
 | conv (k:IntKind)
 | strid
 | s2b
 | b2s
 | allocL (zero:List GV)
 | boxL
 | allocH (t:Nat) (zero:List GV)
 | boxH (t:Nat)
 | build (zero:List GV) (places:List (Nat × Nat))
 | buildSl (sz len:Nat) (zero:GV) (idx:List Nat)
 | buildR (ty sz len:Nat) (zero:GV) (idx:List Nat)
 | load (sz:Nat) (ag:Bool)
 | store (sz:Nat)
 | faddr (off:Nat)
 | field (off sz:Nat) (ag:Bool)
 | ixaddr (sz:Nat)
 | ixaddrA (n sz:Nat)
 | ixstr
 | ixarr (n sz:Nat) (ag:Bool)
 | slstr (lo hi:Bool)
 | slsl (sz:Nat) (lo hi mx:Bool)
 | nilchk
 | extract (i:Nat)
 | mkfunc (f nfirst:Nat)
 | lenstr
 | lensl
 | lenN (n:Nat)
 | makeR (ty sz bytes:Nat) (zero:GV)
 | b2r
 | append (ty sz bytes:Nat)
 | appendS (ty:Nat)
 | minmax (mx:Bool)
 | range
 | allocK (k:Nat) (zero:List GV)
 | boxK (k:Nat)
 | rangeK (k:Nat)
 | next
 | call (f:Nat)
 | callv
 | callP (f:Nat)
 | trap
 | mkmap (ag:Bool) (ls:List Leaf)
 | mlook (ag:Bool) (ls:List Leaf) (zero:GV) (ok:Bool)
 | mset (ag:Bool) (ls:List Leaf)
 | mdel (ag:Bool) (ls:List Leaf)
 | mlen
 | boxI
 | slarr (n sz:Nat)
 | freeze
 | appendN (ty sz bytes:Nat)
 | clearR (sz:Nat) (zero:GV)
 | loadF
 | appendT (ty sz bytes:Nat)
def Prim.isBox:Prim→Bool
 | .allocL _ | .boxL | .range=>true
 | _=>false
def Prim.rank (k:Nat):Prim→Prim
 | .allocL z=>.allocK k z
 | .boxL=>.boxK k
 | .range=>.rangeK k
 | .allocK _ _ | .boxK _ | .rangeK _=>.trap
 | p=>p
inductive AK where
 | loc (slot:Nat)
 | el
 | heap
def AK.fits:AK→GV→Bool
 | .loc s,.laddr s' _ _=>s' == s
 | .el,.el _ _=>true
 | .heap,.ptr _ _=>true
 | _,_=>false
def zqy:Option AK→List GV→Bool
 | none,_=>true
 | some k,a::_=>k.fits a
 | some _,[]=>false
structure IOp where
 dst:Option Nat
 guard:Option (Nat × Bool)
 prim:Prim
 args:List Src
 ak:Option AK
inductive ICode where
 | skip
 | region (ops:List IOp)
 | seq (a b:ICode)
 | cond (c:Src) (a b:ICode)
 | block (id:Nat) (a:ICode)
 | loop (a:ICode)
 | exit (id:Nat)
 | bump (n:Nat)
 | ret
 | trap
inductive IRes where
 | slot (t:Nat)
 | cell (t sz:Nat) (ag:Bool)
structure IFun where
 nt:Nat
 results:List IRes
 body:ICode
 ro:Nat
 mode:Nat
 fn:List GV→GH→Option (GV × GH)
def zbd:List GV→GH→Option (GV × GH):=fun _ _=>none
inductive GExit where
 | normal
 | exit (id:Nat)
 | ret
def zac (e:Env):Src→GV
 | .val g=>g
 | .slot t=>match zag e.s t with
  | .lbox g _=>.laddr t g 0
  | .siter g _ _=>.laddr t g 0
  | v=>v
def zbP (cs:List GV) (off sz:Nat) (ag:Bool):Option GV :=
 if ag then (if off+sz≤cs.length then some (.agg ((cs.drop off).take sz)) else none) else cs[off]?
def zae (cs:List GV) (off:Nat) (vs:List GV):Option (List GV) :=
 if off+vs.length≤cs.length then some (cs.take off++vs++cs.drop (off+vs.length)) else none
def zef (e:Env) (slot g:Nat):Option (List GV) :=
 match zag e.s slot with
 | .lbox g' cs=>if g'=g then some cs else none
 | _=>none
def zjf (op:BinOp) (k:IntKind) (x y:Int):Option GV :=
 match op with
 | .add=>some (.int k (k.wrap (x+y)))
 | .sub=>some (.int k (k.wrap (x - y)))
 | .mul=>some (.int k (k.wrap (x * y)))
 | .quo=>if y=0 then none else some (.int k (k.wrap (x.tdiv y)))
 | .rem=>if y=0 then none else some (.int k (x.tmod y))
 | .and=>some (.int k (k.wrap (BitVec.ofInt k.bits x &&& BitVec.ofInt k.bits y).toNat))
 | .or=>some (.int k (k.wrap (BitVec.ofInt k.bits x ||| BitVec.ofInt k.bits y).toNat))
 | .xor=>some (.int k (k.wrap (BitVec.ofInt k.bits x ^^^ BitVec.ofInt k.bits y).toNat))
 | .andNot=>some (.int k (k.wrap (BitVec.ofInt k.bits x &&& ~~~ (BitVec.ofInt k.bits y)).toNat))
 | .eql=>some (.bool (x == y))
 | .neq=>some (.bool (x != y))
 | .lss=>some (.bool (x<y))
 | .leq=>some (.bool (x≤y))
 | .gtr=>some (.bool (x > y))
 | .geq=>some (.bool (x ≥ y))
 | .shl | .shr=>none
def zhL (op:BinOp) (k:IntKind) (x y:Int):Option GV :=
 if y<0 then none else
 match op with
 | .shl=>some (.int k (k.wrap (x * 2 ^ (min y.toNat k.bits))))
 | .shr=>some (.int k (x.fdiv (2 ^ (min y.toNat k.bits))))
 | _=>none
def zg7 (op:BinOp) (x y:ByteArray):Option GV :=
 match op with
 | .add=>if x.size+y.size≤maxLen then some (.str (x++y)) else none
 | .eql=>some (.bool (x.toList == y.toList))
 | .neq=>some (.bool (!(x.toList == y.toList)))
 | .lss=>some (.bool (Op.bytesLess x.toList y.toList))
 | .leq=>some (.bool (Op.bytesLess x.toList y.toList || x.toList == y.toList))
 | .gtr=>some (.bool (!(Op.bytesLess x.toList y.toList || x.toList == y.toList)))
 | .geq=>some (.bool (!(Op.bytesLess x.toList y.toList)))
 | _=>none
def zsv (op:BinOp):GV→GV→Option GV
 | .int k a,.int k' b=>match op with
  | .shl | .shr=>zhL op k a b
  | _=>if k=k' then zjf op k a b else none
 | .str a,.str b=>zg7 op a b
 | _,_=>none
def zba:Leaf→GV→GV→Option Bool
 | .bool,.bool a,.bool b=>some (a == b)
 | .int _,.int k a,.int k' b=>if k=k' then some (a == b) else none
 | .str,.str a,.str b=>some (a == b)
 | .ptr,.nilptr,.nilptr=>some true
 | .ptr,.nilptr,.ptr _ _=>some false
 | .ptr,.ptr _ _,.nilptr=>some false
 | .slice,.nilsl,.nilsl=>some true
 | .slice,.nilsl,.sl _ _ _=>some false
 | .slice,.nilsl,.hsl _ _ _ _ _=>some false
 | .slice,.sl _ _ _,.nilsl=>some false
 | .slice,.hsl _ _ _ _ _,.nilsl=>some false
 | .map,.nilmap,.nilmap=>some true
 | .map,.nilmap,.map _=>some false
 | .map,.map _,.nilmap=>some false
 | .func,.nilfunc,.nilfunc=>some true
 | .func,.nilfunc,.func _ _ _=>some false
 | .func,.func _ _ _,.nilfunc=>some false
 | .iface,.niliface,.niliface=>some true
 | .iface,.niliface,.iface _ _=>some false
 | .iface,.iface _ _,.niliface=>some false
 | _,_,_=>none
def zaT:List Leaf→List GV→List GV→Option Bool
 | [],[],[]=>some true
 | l::ls,x::xs,y::ys=>match zba l x y,zaT ls xs ys with
  | some a,some b=>some (a&&b)
  | _,_=>none
 | _,_,_=>none
def gUn (op:UnOp):GV→Option GV
 | .int k n=>match op with
  | .neg=>some (.int k (k.wrap (0 - n)))
  | .xor=>zjf .xor k (if k.signed then -1 else k.max) n
  | _=>none
 | .bool b=>match op with
  | .not=>some (.bool !b)
  | _=>none
 | _=>none
def za6:List GV→List ((Nat × Nat) × GV)→Option (List GV)
 | cs,[]=>some cs
 | cs,((off,sz),v)::rest =>
  if v.cells.length=sz then (zae cs off v.cells).bind (za6 · rest) else none
def zaj:List GV→List (Nat × GV)→List GV
 | xs,[]=>xs
 | xs,(i,v)::rest=>zaj (xs.set i v) rest
def zbf (s:ByteArray):List GV:=s.data.toList.map fun b=>.int .u8 b.toNat
def zcM:List GV→Option (List UInt8)
 | []=>some []
 | .int .u8 n::l=>(zcM l).map (UInt8.ofNat n.toNat::·)
 | _=>none
def zce (y:Nat):GV→Option Nat
 | .int _ i=>if 0≤i∧i≤(y:Int) then some i.toNat else none
 | _=>none
def gIx (y:Nat):GV→Option Nat
 | .int _ i=>if 0≤i∧i<(y:Int) then some i.toNat else none
 | _=>none
def zaO (len:Nat) (lo hi mx:Bool) (args:List GV):Option (Nat × Nat × Option Nat) :=
 match lo,hi,mx,args with
 | false,false,false,[]=>some (0,len,none)
 | true,false,false,[a]=>(zce len a).map fun l=>(l,len,none)
 | false,true,false,[b]=>(zce len b).map fun h=>(0,h,none)
 | true,true,false,[a,b]=>(zce len b).bind fun h=>(zce h a).map fun l=>(l,h,none)
 | false,true,true,[b,c]=>(zce len c).bind fun m=>(zce m b).map fun h=>(0,h,some m)
 | true,true,true,[a,b,c]=>(zce len c).bind fun m=>(zce m b).bind fun h=>(zce h a).map fun l=>(l,h,some m)
 | _,_,_,_=>none
def zeZ (tag:Tag) (len h:Nat):Option Nat→Tag
 | some m=>if m=h then .exact else .imm
 | none=>match tag with
  | .imm=>.imm
  | .exact=>if h=len then .exact else .imm
  | .tok t pos ty=>.tok t (pos - (len - h)) ty
def zBT (sz:Nat) (cs:List GV):GV:=if sz=1 then cs.headD .junk else .agg cs
def za4 (sz:Nat):Nat→List GV→List GV
 | 0,_=>[]
 | n+1,cs=>zBT sz (cs.take sz)::za4 sz n (cs.drop sz)
def zaF (p:Prim) (args:List GV):Option GV :=
 match p,args with
 | .id,[x]=>some x
 | .pick,[.bool c,a,b]=>some (if c then a else b)
 | .bin op,[x,y]=>zsv op x y
 | .eqv neg ls,[.agg x,.agg y]=>(zaT ls x y).map fun b=>.bool (if neg then !b else b)
 | .eq1 neg l,[x,y]=>(zba l x y).map fun b=>.bool (if neg then !b else b)
 | .un op,[x]=>gUn op x
 | .conv k,[.int _ n]=>some (.int k (k.wrap n))
 | .strid,[.str s]=>some (.str s)
 | .b2s,[.nilsl]=>some (.str .empty)
 | .b2s,[.sl _ xs _]=>(zcM xs).map fun l=>.str ⟨l.toArray⟩
 | .build zero places,vs=>if oks vs&&vs.length == places.length then (za6 zero (places.zip vs)).map .agg else none
 | .faddr off,[.laddr s g o]=>some (.laddr s g (o+off))
 | .faddr off,[.ptr i o]=>some (.ptr i (o+off))
 | .faddr off,[.el cs o]=>some (.el cs (o+off))
 | .field off sz ag,[.agg cs]=>zbP cs off sz ag
 | .ixaddr sz,[.sl sz' xs _,i]=>if sz=sz' then (gIx xs.length i).bind fun i=>(xs[i]?).map fun x=>.el x.cells 0 else none
 | .ixaddr sz,[.hsl id off len sz' _,i]=>if sz=sz' then (gIx len i).map fun i=>.ptr id (off+i * sz) else none
 | .ixaddrA n sz,[.laddr s g o,i]=>(gIx n i).map fun i=>.laddr s g (o+i * sz)
 | .ixaddrA n sz,[.ptr id o,i]=>(gIx n i).map fun i=>.ptr id (o+i * sz)
 | .ixaddrA n sz,[.el cs o,i]=>(gIx n i).map fun i=>.el cs (o+i * sz)
 | .ixstr,[.str s,i]=>(gIx s.size i).bind fun i=>(s[i]?).map fun b=>.int .u8 b.toNat
 | .ixarr n sz ag,[.agg cs,i]=>(gIx n i).bind fun i=>zbP cs (i * sz) sz ag
 | .slstr lo hi,.str s::bs=>(zaO s.size lo hi false bs).map fun (l,h,_)=>.str (s.extract l h)
 | .slsl _ lo hi mx,.nilsl::bs=>(zaO 0 lo hi mx bs).map fun _=>.nilsl
 | .slsl sz lo hi mx,.sl sz' xs tag::bs =>
  if sz=sz' then (zaO xs.length lo hi mx bs).map fun (l,h,m)=>.sl sz ((xs.drop l).take (h - l)) (zeZ tag xs.length h m) else none
 | .slsl sz lo hi mx,.hsl id off len sz' ag::bs =>
  if sz=sz' then (zaO len lo hi mx bs).map fun (l,h,_)=>if l<h then .hsl id (off+l * sz) (h - l) sz ag else .sl sz [] .imm else none
 | .slarr n sz,[.el cs off]=>if 0<sz∧off+n * sz≤cs.length∧((cs.drop off).take (n * sz)).all GV.one=true∧n≤maxLen then some (.sl sz (za4 sz n (cs.drop off)) .exact) else none
 | .nilchk,[x]=>match x with
  | .laddr .. | .ptr .. | .el .. | .sl .. | .str _ | .iface .. | .agg _ | .hsl .. | .map _ | .func .. => some x
  | _=>none
 | .extract i,[.tup vs]=>vs[i]?
 | .mkfunc f n,vs=>if oks vs then some (.func f (vs.take n) (vs.drop n)) else none
 | .lenstr,[.str s]=>some (.int .i64 s.size)
 | .lensl,[.nilsl]=>some (.int .i64 0)
 | .lensl,[.sl _ xs _]=>some (.int .i64 xs.length)
 | .lensl,[.hsl _ _ n _ _]=>some (.int .i64 n)
 | .lenN n,[_]=>some (.int .i64 n)
 | .minmax mx,[.int k x,.int _ y]=>some (.int k (if mx then (if y > x then y else x) else (if y<x then y else x)))
 | _,_=>none
structure Eff where
 v:GV
 box:Option (Nat × GV)
 H:GH
 gen:Nat
def zdD (e:Env) (H:GH) (sz:Nat) (ag:Bool):GV→Option GV
 | .laddr s g off=>(zef e s g).bind fun cs=>zbP cs off sz ag
 | .el cs off=>zbP cs off sz ag
 | .ptr id off=>match H.objs[id]? with
  | some (.cells _ cs)=>zbP cs off sz ag
  | some (.row _ cs)=>zbP cs off sz ag
  | _=>none
 | _=>none
def GH.newObj (H:GH) (o:GObj):GH:={ H with objs:=H.objs++[o] }
def zbK (sz:Nat):GV→Option (List GV)
 | .nilsl=>some []
 | .sl sz' xs _=>if sz=sz' then some xs else none
 | .str s=>if sz=1 then some (zbf s) else none
 | _=>none
def room:Nat:=140737488355328
def zaU (H:GH) (ty sz bytes:Nat) (s x:GV):Option (GV × GH) :=
 (zbK sz x).bind fun news =>
   match s with
   | .nilsl=>if news.isEmpty then some (.nilsl,H) else
    if news.length * bytes≤room∧news.length≤maxLen then
     some (.sl sz news (.tok H.toks.length news.length (some ty)),{ H with toks:=H.toks++[news.length] }) else none
   | .sl sz' xs tag=>if sz≠sz' then none else if news.isEmpty then some (s,H) else if tag=.imm then none else
    if (xs.length+news.length) * bytes≤room∧xs.length+news.length≤maxLen then
     match tag with
     | .imm=>none
     | .exact=>some (.sl sz (xs++news) (.tok H.toks.length (xs.length+news.length) (some ty)),{ H with toks:=H.toks++[xs.length+news.length] })
     | .tok t pos ty'=>if H.toks[t]?=some pos∧H.bt≤t then
      some (.sl sz (xs++news) (.tok t (pos+news.length) (if ty'=some ty then ty' else none)),{ H with toks:=H.toks.set t (pos+news.length) }) else none
    else none
   | .hsl id off len sz' ag=>match H.objs[id]? with
    | some (.row t cs)=>if off=0∧sz=sz'∧t=ty∧cs.length=len * sz∧H.bo≤id∧(len+news.length) * bytes≤room∧len+news.length≤maxLen∧news.isEmpty=false then
     some (.hsl H.objs.length 0 (len+news.length) sz ag,{ H with objs:=H.objs.set id .dead++[.row t (cs++news.flatMap GV.cells)] }) else none
    | _=>none
   | _=>none
def zbN (H:GH) (ty sz bytes:Nat) (s x:GV):Option (GV × List Nat) :=
 match s with
 | .hsl .. => none
 | s=>(zaU H ty sz bytes s x).map fun r=>(r.1,r.2.toks)
def zle (H:GH) (ty sz bytes:Nat) (zero:GV):GV→GV→Option (GV × GH)
 | .int _ l,.int _ c=>if 0≤l∧l≤c∧bytes * c.toNat≤room∧c.toNat≤maxLen∧zero.cells.length=sz∧0<sz∧zero.flat=true then
  some (.hsl H.objs.length 0 l.toNat sz false,H.newObj (.row ty ((List.replicate l.toNat zero).flatMap GV.cells))) else none
 | _,_=>none
def zBU (H:GH):List GV→Option GV
 | [.hsl id off len _ _]=>match H.objs[id]? with
  | some (.row _ cs)=>if off+len≤cs.length then (zcM ((cs.drop off).take len)).map fun l=>.str ⟨l.toArray⟩ else none
  | _=>none
 | _=>none
def zat:List Leaf→List GV→Bool
 | [],[]=>true
 | .bool::ls,.bool _::cs=>zat ls cs
 | .int k::ls,.int k' n::cs=>decide (k'=k)&&(decide (k.min≤n∧n≤k.max)&&zat ls cs)
 | .str::ls,.str s::cs=>decide (s.size≤maxLen)&&zat ls cs
 | _,_=>false
def zaA (ag:Bool) (ls:List Leaf):GV→Bool
 | .agg cs=>ag&&zat ls cs
 | g=>!ag&&zat ls [g]
def zsw:GV→GV→Bool
 | .bool a,.bool b=>a == b
 | .int k a,.int k' b=>decide (k=k')&&decide (a=b)
 | .str a,.str b=>a == b
 | _,_=>false
def zhM:List GV→List GV→Bool
 | [],[]=>true
 | x::xs,y::ys=>zsw x y&&zhM xs ys
 | _,_=>false
def zbZ (a b:GV):Bool:=zhM a.cells b.cells
def zaX (es:List (GV × GV)) (k:GV):Option GV:=(es.find? fun p=>zbZ p.1 k).map (·.2)
def zas (es:List (GV × GV)) (k v:GV):List (GV × GV) :=
 if es.any (fun p=>zbZ p.1 k) then es.map (fun p=>if zbZ p.1 k then (k,v) else p) else es++[(k,v)]
def zfH (es:List (GV × GV)) (k:GV):List (GV × GV):=es.filter fun p=>!zbZ p.1 k
def zaR (H:GH):List GV→Option (GV × GH)
 | [.hsl id off len sz _]=>match H.objs[id]? with
  | some (.row _ cs)=>if H.bo≤id∧0<sz∧off+len * sz≤cs.length∧((cs.drop off).take (len * sz)).all GV.one=true then
   some (.sl sz (za4 sz len (cs.drop off)) .imm,{ H with objs:=H.objs.set id .dead }) else none
  | _=>none
 | [.nilsl]=>some (.nilsl,H)
 | [.sl sz xs tag]=>some (.sl sz xs tag,H)
 | _=>none
def zfI (H:GH):GV→Option (GV × GH)
 | .ptr p o=>match H.objs[p]? with
  | some (.cells t cs)=>match cs[o]? with
   | some (.hsl id off len sz ag)=>(zaR H [.hsl id off len sz ag]).map fun r=>(r.1,{ r.2 with objs:=r.2.objs.set p (.cells t (cs.set o r.1)) })
   | some .nilsl=>some (.nilsl,H)
   | some (.sl sz xs tag)=>some (.sl sz xs tag,H)
   | _=>none
  | _=>none
 | _=>none
def za9 (H:GH) (ty sz bytes:Nat) (s x:GV):Option (GV × GH) :=
 (zbK sz x).bind fun news =>
   match s with
   | .nilsl=>if news.isEmpty then some (.nilsl,H) else
    if news.length * bytes≤room∧news.length≤maxLen then some (.hsl H.objs.length 0 news.length sz false,H.newObj (.row ty (news.flatMap GV.cells))) else none
   | .sl sz' xs tag=>if sz≠sz' then none else if news.isEmpty then some (s,H) else if tag=.exact∧xs=[] then
    (if news.length * bytes≤room∧news.length≤maxLen then some (.hsl H.objs.length 0 news.length sz false,H.newObj (.row ty (news.flatMap GV.cells))) else none) else none
   | .hsl id off len sz' ag=>zaU H ty sz bytes (.hsl id off len sz' ag) x
   | _=>none
def ze0 (H:GH) (sz:Nat) (zero:GV):List GV→Option (GV × GH)
 | [.nilsl]=>some (.tup [],H)
 | [.sl _ xs _]=>if xs.isEmpty then some (.tup [],H) else none
 | [.hsl id off len sz' _]=>match H.objs[id]? with
  | some (.row t cs)=>if sz=sz'∧H.bo≤id∧0<len∧off+len * sz≤cs.length∧zero.cells.length=sz∧zero.flat=true then
   some (.tup [],{ H with objs:=H.objs.set id (.row t (cs.take off++(List.replicate len zero).flatMap GV.cells++cs.drop (off+len * sz))) }) else none
  | _=>none
 | _=>none
def ze8 (H:GH) (ag:Bool) (ls:List Leaf):GV→GV→Option (Option GV)
 | .nilmap,k=>if zaA ag ls k=true then some none else none
 | .map id,k=>match H.objs[id]? with
  | some (.map ag' ls' es)=>if ag'=ag∧ls'=ls∧zaA ag ls k=true then some (zaX es k) else none
  | _=>none
 | _,_=>none
def zpk (H:GH):GV→Option Nat
 | .nilmap=>some 0
 | .map id=>match H.objs[id]? with
  | some (.map _ _ es)=>some es.length
  | _=>none
 | _=>none
def zbb (H:GH) (ag:Bool) (ls:List Leaf):GV→GV→GV→Option GH
 | .map id,k,v=>match H.objs[id]? with
  | some (.map ag' ls' es)=>if ag'=ag∧ls'=ls∧zaA ag ls k=true∧v.ok=true∧H.bo≤id then some { H with objs:=H.objs.set id (.map ag ls (zas es k v)) } else none
  | _=>none
 | _,_,_=>none
def zdh (H:GH) (ag:Bool) (ls:List Leaf) (m k v:GV):Option GH :=
 match v with
 | .hsl id off len sz x=>(zaR H [.hsl id off len sz x]).bind fun r=>zbb r.2 ag ls m k r.1
 | v=>zbb H ag ls m k v
def zka (H:GH) (ag:Bool) (ls:List Leaf):GV→GV→Option GH
 | .nilmap,k=>if zaA ag ls k=true then some H else none
 | .map id,k=>match H.objs[id]? with
  | some (.map ag' ls' es)=>if ag'=ag∧ls'=ls∧zaA ag ls k=true∧H.bo≤id then some { H with objs:=H.objs.set id (.map ag ls (zfH es k)) } else none
  | _=>none
 | _,_=>none
def zao (call:Nat→List GV→GH→Option (GV × GH)) (p:Prim) (args:List GV) (e:Env) (H:GH):Option Eff :=
 match p with
 | .allocL zero=>match args with
  | []=>some ⟨.lbox e.gen zero,none,H,e.gen+1⟩
  | _=>none
 | .boxL=>match args with
  | [x]=>if x.ok then some ⟨.lbox e.gen x.cells,none,H,e.gen+1⟩ else none
  | _=>none
 | .allocH t zero=>match args with
  | []=>some ⟨.ptr H.objs.length 0,none,H.newObj (.cells t zero),e.gen⟩
  | _=>none
 | .boxH t=>match args with
  | [x]=>if x.ok then some ⟨.ptr H.objs.length 0,none,H.newObj (.cells t x.cells),e.gen⟩ else none
  | _=>none
 | .load sz ag=>match args with
  | [a]=>(zdD e H sz ag a).map fun v=>⟨v,none,H,e.gen⟩
  | _=>none
 | .store sz=>match args with
  | [a,x]=>if x.ok&&x.flat&&x.cells.length == sz then
      match a with
      | .laddr s g off=>(zef e s g).bind fun cs=>(zae cs off x.cells).map fun cs'=>⟨.junk,some (s,.lbox g cs'),H,e.gen⟩
      | .ptr id off=>match H.objs[id]? with
       | some (.cells t cs)=>if H.bo≤id then (zae cs off x.cells).map fun cs'=>⟨.junk,none,{ H with objs:=H.objs.set id (.cells t cs') },e.gen⟩ else none
       | some (.row t cs)=>if H.bo≤id then (zae cs off x.cells).map fun cs'=>⟨.junk,none,{ H with objs:=H.objs.set id (.row t cs') },e.gen⟩ else none
       | _=>none
      | _=>none
   else none
  | _=>none
 | .s2b=>match args with
  | [.str s]=>if s.size≤maxLen then some ⟨.sl 1 (zbf s) .imm,none,H,e.gen⟩ else none
  | _=>none
 | .buildSl sz len zero idx =>
  if oks args&&args.length == idx.length&&args.all (fun v=>v.cells.length == sz&&v.flat)&&idx.all (· < len)&&zero.cells.length == sz&&zero.flat then
   some ⟨.sl sz (zaj (List.replicate len zero) (idx.zip args)) .exact,none,H,e.gen⟩ else none
 | .buildR ty sz len zero idx =>
  if oks args&&args.length == idx.length&&args.all (fun v=>v.cells.length == sz&&v.flat)&&idx.all (· < len)&&zero.cells.length == sz&&zero.flat then
   some ⟨.hsl H.objs.length 0 len sz false,none,H.newObj (.row ty ((zaj (List.replicate len zero) (idx.zip args)).flatMap GV.cells)),e.gen⟩ else none
 | .makeR ty sz bytes zero=>match args with
  | [x,y]=>(zle H ty sz bytes zero x y).map fun (v,H')=>⟨v,none,H',e.gen⟩
  | _=>none
 | .b2r=>(zBU H args).map fun v=>⟨v,none,H,e.gen⟩
 | .append ty sz bytes=>match args with
  | [s,x]=>(zaU H ty sz bytes s x).map fun (v,H')=>⟨v,none,H',e.gen⟩
  | _=>none
 | .appendS ty=>match args with
  | [s,x]=>(zaU H ty 1 1 s x).map fun (v,H')=>⟨v,none,H',e.gen⟩
  | _=>none
 | .range=>match args with
  | [.str s]=>some ⟨.siter e.gen s 0,none,H,e.gen+1⟩
  | _=>none
 | .allocK k zero=>match args with
  | []=>some ⟨.lbox (e.gen+k) zero,none,H,e.gen⟩
  | _=>none
 | .boxK k=>match args with
  | [x]=>if x.ok then some ⟨.lbox (e.gen+k) x.cells,none,H,e.gen⟩ else none
  | _=>none
 | .rangeK k=>match args with
  | [.str s]=>some ⟨.siter (e.gen+k) s 0,none,H,e.gen⟩
  | _=>none
 | .next=>match args with
  | [.laddr s g off]=>match zag e.s s with
   | .siter g' t pos=>if g'=g∧off=0 then
    if pos<t.size then
     some ⟨.tup [.bool true,.int .i64 pos,.int .i32 (Utf8.decode t pos).1],some (s,.siter g t (pos+(Utf8.decode t pos).2)),H,e.gen⟩
    else some ⟨.tup [.bool false],none,H,e.gen⟩
    else none
   | _=>none
  | _=>none
 | .call f=>if oks args then (call f args H).map fun (v,H')=>⟨v,none,H',e.gen⟩ else none
 | .callP f=>if oks args then (call f args H).map fun (v,_)=>⟨v,none,H,e.gen⟩ else none
 | .callv=>match args with
  | .func f first captured::rest=>if oks rest then (call f (first++rest++captured) H).map fun (v,H')=>⟨v,none,H',e.gen⟩ else none
  | _=>none
 | .mkmap ag ls=>match args with
  | []=>some ⟨.map H.objs.length,none,H.newObj (.map ag ls []),e.gen⟩
  | _=>none
 | .mlook ag ls zero ok=>match args with
  | [m,k]=>(ze8 H ag ls m k).map fun r=>⟨if ok then .tup [r.getD zero,.bool r.isSome] else r.getD zero,none,H,e.gen⟩
  | _=>none
 | .boxI=>match args with
  | [x]=>if x.ok then some ⟨.el x.cells 0,none,H,e.gen⟩ else none
  | _=>none
 | .freeze=>(zaR H args).map fun (v,H')=>⟨v,none,H',e.gen⟩
 | .appendT ty sz bytes=>match args with
  | [s,x]=>(zbN H ty sz bytes s x).map fun (v,t)=>⟨v,none,{ H with toks:=t },e.gen⟩
  | _=>none
 | .loadF=>match args with
  | [a]=>(zfI H a).map fun (v,H')=>⟨v,none,H',e.gen⟩
  | _=>none
 | .appendN ty sz bytes=>match args with
  | [s,x]=>(za9 H ty sz bytes s x).map fun (v,H')=>⟨v,none,H',e.gen⟩
  | _=>none
 | .clearR sz zero=>(ze0 H sz zero args).map fun (v,H')=>⟨v,none,H',e.gen⟩
 | .mlen=>match args with
  | [m]=>(zpk H m).map fun (n:Nat)=>⟨.int .i64 (n:Int),none,H,e.gen⟩
  | _=>none
 | .mset ag ls=>match args with
  | [m,k,v]=>(zdh H ag ls m k v).map fun H'=>⟨.junk,none,H',e.gen⟩
  | _=>none
 | .mdel ag ls=>match args with
  | [m,k]=>(zka H ag ls m k).map fun H'=>⟨.tup [],none,H',e.gen⟩
  | _=>none
 | p=>(zaF p args).map fun v=>⟨v,none,H,e.gen⟩
structure St where
 e:Env
 H:GH
def Env.put (e:Env) (d:Option Nat) (v:GV):Env :=
 match d with
 | some t=>{ e with s:=lput e.s t v }
 | none=>e
def Env.box (e:Env) (b:Option (Nat × GV)):Env :=
 match b with
 | some (t,v)=>{ e with s:=lput e.s t v }
 | none=>e
def Eff.on (f:Eff) (d:Option Nat) (s:St):St :=
 { e:={ ((s.e.box f.box).put d f.v) with gen:=f.gen },H:=f.H }
def zbm (e:Env):Option (Nat × Bool)→Option Bool
 | none=>some true
 | some (t,want)=>match zag e.s t with
  | .bool b=>some (b == want)
  | .tup []=>some false
  | _=>none
def gop (call:Nat→List GV→GH→Option (GV × GH)) (o:IOp) (s:St):Option St :=
 match zbm s.e o.guard with
 | none=>none
 | some false=>some { s with e:=s.e.put o.dst (.tup []) }
 | some true=>if zqy o.ak (o.args.map (zac s.e)) then (zao call o.prim (o.args.map (zac s.e)) s.e s.H).map fun f=>f.on o.dst s else none
def zbC (call:Nat→List GV→GH→Option (GV × GH)):List IOp→St→Option St
 | [],s=>some s
 | o::l,s=>(gop call o s).bind (zbC call l)
def zaI (nO nT:Nat):Nat→GV→Option GV
 | 0,_=>none
 | n+1,v=>match v with
  | .bool _ | .int _ _ | .str _ | .nilptr | .nilsl | .nilmap | .nilfunc | .niliface=>some v
  | .ptr id _ | .map id | .hsl id _ _ _ _=>if id<nO then some v else none
  | .sl sz xs tag=>(xs.mapM (zaI nO nT n)).map fun xs=>.sl sz xs (match tag with | .tok t pos ty=>if t<nT then .tok t pos ty else .imm | tag=>tag)
  | .func f a b=>(a.mapM (zaI nO nT n)).bind fun a=>(b.mapM (zaI nO nT n)).map fun b=>.func f a b
  | .iface t v=>(zaI nO nT n v).map (.iface t)
  | .agg cs=>(cs.mapM (zaI nO nT n)).map .agg
  | .tup vs=>(vs.mapM (zaI nO nT n)).map .tup
  | _=>none
def plain:Nat→GV→Bool
 | 0,_=>false
 | n+1,v=>match v with
  | .bool _ | .int _ _ | .str _ | .nilptr | .nilsl | .nilmap | .nilfunc | .niliface=>true
  | .func _ a b=>a.all (plain n)&&b.all (plain n)
  | .iface _ v=>plain n v
  | .agg cs=>cs.all (plain n)
  | .tup vs=>vs.all (plain n)
  | _=>false
def zkb (s:St):IRes→Option GV
 | .slot t=>let v:=zag s.e.s t; if v.ok then some v else none
 | .cell t sz ag=>zdD s.e s.H sz ag (zac s.e (.slot t))
def zaz (s:St) (l:List IRes):Option GV :=
 (l.mapM (zkb s)).map fun vs=>match vs with
   | [v]=>v
   | vs=>.tup vs
def zhN:List GV→Option (List ByteArray)
 | []=>some []
 | .str s::l=>(zhN l).map (s::·)
 | _=>none
def zxY:List GV→Option GV
 | [.nilsl,.str _]=>some (.str ⟨#[]⟩)
 | [.sl _ xs _,.str sep]=>(zhN xs).bind fun l=>if xs.length≤140737488355328∧(Lib.join (l.map (·.data.toList)) sep.data.toList).length≤140737488355328 then some (.str ⟨(Lib.join (l.map (·.data.toList)) sep.data.toList).toArray⟩) else none
 | _=>none
def zsx:List GV→Option GV
 | [.str s,.str sep]=>if s.size<4294967281∧1≤sep.size then some (.sl 1 ((Lib.splitB sep 0 (Lib.countB s sep) s).map .str) .exact) else none
 | _=>none
def zEi:List GV→Option GV
 | [.str s,.str sep]=>if s.size<4294967281 then some (.tup [.str ⟨(Lib.cut s.data.toList sep.data.toList).1.toArray⟩,.str ⟨(Lib.cut s.data.toList sep.data.toList).2.1.toArray⟩,.bool (Lib.cut s.data.toList sep.data.toList).2.2]) else none
 | _=>none
def zxZ:List GV→Option GV
 | [.int .i64 n]=>if -9223372036854775808≤n∧n≤9223372036854775807 then some (.str ⟨(Lib.itoa n).toArray⟩) else none
 | _=>none
@[reducible] def numCase.{u} {α:Type} {β:Type u} (e:Lib.NumEnd α) (a:α→β) (b c:β):β:=Lib.NumEnd.casesOn (motive:=fun _=>β) e a b c
def zDu (te:Nat):List GV→Option GV
 | [.str s]=>if s.size≤281474976710656 then numCase (Lib.atoiAll s.data.toList) (fun v=>some (.tup [.int .i64 v,.niliface]))
     (some (.tup [.int .i64 0,.iface te (.el [] 0)])) (some (.tup [.int .i64 (Lib.atoiSat s.data.toList),.iface te (.el [] 0)])) else none
 | _=>none
def ze9:List GV→Option (List UInt8)
 | []=>some []
 | .int .u8 n::l=>if 0≤n∧n<256 then (ze9 l).map (UInt8.ofNat n.toNat::·) else none
 | _=>none
def znX (ty:Nat) (H:GH):List GV→Option GV
 | [.ptr id 0]=>match H.objs[id]? with
  | some (.cells _ [_,.nilsl])=>some (.str ⟨#[]⟩)
  | some (.cells _ [_,.sl 1 (x::xs) (.tok t pos (some y))])=>if y=ty∧H.toks[t]?=some pos∧H.bt≤t then (ze9 (x::xs)).map fun l=>.str ⟨l.toArray⟩ else none
  | _=>none
 | _=>none
def zmI (F:IFun) (args:List GV) (H:GH):Option GV :=
 match F.mode with
 | 10=>zxY args
 | 11=>zsx args
 | 12=>zxZ args
 | 13=>zDu F.ro args
 | 14=>zEi args
 | 15=>(F.fn args H).map (·.1)
 | 17=>znX F.ro H args
 | _=>none
def zsy (ty:Nat) (H:GH):List GV→Option (GV × GH)
 | [.ptr id 0]=>match H.objs[id]? with
  | some (.cells t [.nilptr,x])=>if t=ty∧H.bo≤id then some (.tup [],{ H with objs:=H.objs.set id (.cells t [.ptr id 0,x]) }) else none
  | some (.cells _ [.ptr i 0,_])=>if i=id then some (.tup [],H) else none
  | _=>none
 | _=>none
def zw8 (F:IFun) (args:List GV) (H:GH):Option (GV × GH) :=
 match F.mode with
 | 20=>zsy F.ro H args
 | 30=>(F.fn args H).bind fun r=>if r.2.bo=H.bo∧r.2.bt=H.bt then some r else none
 | _=>none
def ziz (F:IFun) (args:List GV) (H:GH):Option (GV × GH):=if F.mode<20 then (zmI F args H).map fun v=>(v,H) else zw8 F args H
mutual
def zak (T:Nat→Option IFun):Nat→ICode→St→Option (GExit × St)
 | 0,_,_=>none
 | n+1,c,s=>match c with
  | .skip=>some (.normal,s)
  | .region ops=>(zbC (zbw T n) ops s).map fun s=>(.normal,s)
  | .seq a b=>match zak T n a s with
   | some (.normal,s)=>zak T n b s
   | r=>r
  | .cond c a b=>match zac s.e c with
   | .bool true=>zak T n a s
   | .bool false=>zak T n b s
   | _=>none
  | .block id a=>match zak T n a s with
   | some (.exit id',s)=>if id'=id then some (.normal,s) else some (.exit id',s)
   | r=>r
  | .loop a=>match zak T n a s with
   | some (.normal,s)=>zak T n (.loop a) s
   | r=>r
  | .exit id=>some (.exit id,s)
  | .bump k=>some (.normal,{ s with e:={ s.e with gen:=s.e.gen+k } })
  | .ret=>some (.ret,s)
  | .trap=>none
def zbw (T:Nat→Option IFun):Nat→Nat→List GV→GH→Option (GV × GH)
 | 0,_,_,_=>none
 | n+1,f,args,H=>match T f with
  | none=>none
  | some F =>
   if F.nt<args.length then none else
   if 10≤F.mode then ziz F args H else
   if F.mode=1 then
    match zak T n F.body { e:={ s:=args,gen:=0 },H:={ H with bo:=H.objs.length,bt:=H.toks.length } } with
    | some (.normal,s) | some (.ret,s)=>(zaz s F.results).bind fun v=>(zaI H.objs.length H.toks.length 100 v).map fun v=>(v,H)
    | _=>none
   else if F.mode=2 then
    if args.all (plain 100) then
     match zak T n F.body { e:={ s:=args,gen:=0 },H:={ objs:=List.replicate F.ro .dead,toks:=[],bo:=F.ro,bt:=0 } } with
     | some (.normal,s) | some (.ret,s)=>(zaz s F.results).bind fun v=>if plain 100 v then some (v,H) else none
     | _=>none
    else none
   else
    match zak T n F.body { e:={ s:=args,gen:=0 },H:=H } with
    | some (.normal,s) | some (.ret,s)=>(zaz s F.results).map fun v=>(v,s.H)
    | _=>none
end
structure Tok where
 b:Nat
 fend:Nat
 cend:Nat
 elem:Nat
structure Ctx where
 φ:Nat→Option Nat
 κ:Nat→Nat
 τ:Nat→Option Tok
 ρ:Nat→Prop
 w:World
 toks:List Nat
 nO:Nat
 N:Nat
def Imm (K:Ctx) (b o:Nat):Prop :=
 b<K.w.heap.size∧¬ K.ρ b∧(∀ id,K.φ id≠some b)∧∀ t ti,K.τ t=some ti→ti.b=b→o<ti.fend
def TagOk (K:Ctx) (tag:Tag) (b off len cap sz:Nat):Prop :=
 match tag with
 | .imm=>True
 | .exact=>cap=len
 | .tok t pos ty=>K.N≤b∧len≤pos∧∃ p,K.toks[t]?=some p∧pos≤p∧(pos=p→(cap=0∧len=0) ∨
  ∃ ti,K.τ t=some ti∧ti.b=b∧off+len * sz=ti.fend∧off+cap * sz≤ti.cend∧∀ y,ty=some y→ti.elem=y)
inductive VR (K:Ctx):GV→Value→Prop
 | bool (b:Bool):VR K (.bool b) (.bool b)
 | int (k:IntKind) (n:Int):VR K (.int k n) (.int k n)
 | str (s:ByteArray):VR K (.str s) (.string s)
 | nilptr:VR K .nilptr (.pointer none)
 | ptr {id off b o:Nat} (hid:id<K.nO) (h:∀ c,K.φ id=some c→c=b∧o=off):VR K (.ptr id off) (.pointer (some ⟨b,o,none⟩))
 | nilsl:VR K .nilsl (.slice none 0 0)
 | sl {sz:Nat} {xs:List GV} {tag:Tag} {b off cap:Nat} {cv:Nat→Nat→Value} (hcap:xs.length≤cap) (hmax:cap≤maxLen)
    (hsz:∀ x,x∈xs→x.cells.length=sz∧x.flat=true)
    (hI:∀ i x j c,xs[i]?=some x→x.cells[j]?=some c→Imm K b (off+i * sz+j)∧K.w.cell? ⟨b,off+i * sz+j,none⟩=some (cv i j))
    (hv:∀ i x j c,xs[i]?=some x→x.cells[j]?=some c→VR K c (cv i j))
    (htag:TagOk K tag b off xs.length cap sz):VR K (.sl sz xs tag) (.slice (some ⟨b,off,none⟩) xs.length cap)
 | emp {sz:Nat} {tag:Tag} (a:Addr) (ht:tag=.imm∨tag=.exact):VR K (.sl sz [] tag) (.slice (some a) 0 0)
 | hsl {id off len sz:Nat} {ag:Bool} {b o cap:Nat} (hid:id<K.nO) (h:∀ c,K.φ id=some c→c=b∧o=off∧off+cap * sz≤K.κ id) (hcap:len≤cap) (hmax:cap≤maxLen) :
    VR K (.hsl id off len sz ag) (.slice (some ⟨b,o,none⟩) len cap)
 | nilmap:VR K .nilmap (.map none)
 | map {id b:Nat} (hid:id<K.nO) (h:∀ c,K.φ id=some c→c=b):VR K (.map id) (.map (some b))
 | nilfunc:VR K .nilfunc .nilFunc
 | func {f:Nat} {xs ys:List GV} {us vs:Array Value} (hx:xs.length=us.size) (hy:ys.length=vs.size)
    (h1:∀ (i:Nat) x u,xs[i]?=some x→us[i]?=some u→VR K x u) (h2:∀ (i:Nat) y v,ys[i]?=some y→vs[i]?=some v→VR K y v):VR K (.func f xs ys) (.func (.func f) us vs)
 | niliface:VR K .niliface .nilIface
 | iface {t:Nat} {g:GV} {v:Value} (h:VR K g v):VR K (.iface t g) (.iface t v)
 | agg {cs:List GV} {vs:Array Value} (hl:cs.length=vs.size) (h:∀ (i:Nat) c v,cs[i]?=some c→vs[i]?=some v→VR K c v):VR K (.agg cs) (.agg vs)
 | tup {cs:List GV} {vs:Array Value} (hl:cs.length=vs.size) (h:∀ (i:Nat) c v,cs[i]?=some c→vs[i]?=some v→VR K c v):VR K (.tup cs) (.tuple vs)
 | el {cs:List GV} {off b base o:Nat} {cv:Nat→Value} (ho:o=base+off)
    (hI:∀ j c,cs[j]?=some c→Imm K b (base+j)∧K.w.cell? ⟨b,base+j,none⟩=some (cv j))
    (hv:∀ j c,cs[j]?=some c→VR K c (cv j)):VR K (.el cs off) (.pointer (some ⟨b,o,none⟩))
theorem VR.ok {K:Ctx} {g:GV} {v:Value} (h:VR K g v):g.ok=true:=by cases h <;> rfl
class Facts where
 D:World→Prop
 mono:Prop
variable [Facts]
structure Ext (L:Nat→Prop) (bo bt:Nat) (K K':Ctx):Prop where
 N:K'.N=K.N
 nO:K.nO≤K'.nO
 size:K.w.heap.size≤K'.w.heap.size
 tape:K'.w.tape=K.w.tape
 os:K'.w.os=K.w.os
 output:K'.w.output=K.w.output
 drawn:Facts.mono→K.w.drawn≤K'.w.drawn
 φ:∀ id b,id<K.nO→K'.φ id=some b→K.φ id=some b
 κ:∀ id,id<K.nO→K'.κ id=K.κ id
 imm:∀ b o,Imm K b o→Imm K' b o∧K'.w.cell? ⟨b,o,none⟩=K.w.cell? ⟨b,o,none⟩
 loc:∀ b,K.ρ b→K'.ρ b∧(¬ L b→K'.w.heap[b]?=K.w.heap[b]?)
 below:∀ b,b<K.N→K'.w.heap[b]?=K.w.heap[b]?
 tok:∀ t p,K.toks[t]?=some p→∃ p',K'.toks[t]?=some p'∧p≤p'∧(p=p'→K'.τ t=K.τ t)
 prot:∀ id,id<bo→id<K.nO→K'.φ id=K.φ id∧∀ b,K.φ id=some b→K'.w.heap[b]?=K.w.heap[b]?
 protT:∀ t,t<bt→t<K.toks.length→K'.τ t=K.τ t∧K'.toks[t]?=K.toks[t]?∧∀ ti,K.τ t=some ti→K'.w.heap[ti.b]?=K.w.heap[ti.b]?
theorem Ext.refl (L:Nat→Prop) (bo bt:Nat) (K:Ctx):Ext L bo bt K K :=
 ⟨rfl,Nat.le_refl _,Nat.le_refl _,rfl,rfl,rfl,fun _=>Nat.le_refl _,fun _ _ _ h=>h,fun _ _=>rfl,fun _ _ h=>⟨h,rfl⟩,fun _ h=>⟨h,fun _=>rfl⟩,fun _ _=>rfl,
   fun _ p h=>⟨p,h,Nat.le_refl _,fun _=>rfl⟩,fun _ _ _=>⟨rfl,fun _ _=>rfl⟩,fun _ _ _=>⟨rfl,rfl,fun _ _=>rfl⟩⟩
theorem Ext.trans {L L':Nat→Prop} {bo bt:Nat} {K K' K'':Ctx} (h:Ext L bo bt K K') (h':Ext L' bo bt K' K'') (hL:∀ b,K.ρ b→L' b→L b):Ext L bo bt K K'' where
 N:=h'.N.trans h.N
 nO:=Nat.le_trans h.nO h'.nO
 size:=Nat.le_trans h.size h'.size
 tape:=h'.tape.trans h.tape
 os:=h'.os.trans h.os
 output:=h'.output.trans h.output
 drawn:=fun m=>Nat.le_trans (h.drawn m) (h'.drawn m)
 φ:=fun id b hid hb=>h.φ id b hid (h'.φ id b (Nat.lt_of_lt_of_le hid h.nO) hb)
 κ:=fun id hid=>(h'.κ id (Nat.lt_of_lt_of_le hid h.nO)).trans (h.κ id hid)
 imm:=fun b o hi=>⟨(h'.imm b o (h.imm b o hi).1).1,(h'.imm b o (h.imm b o hi).1).2.trans (h.imm b o hi).2⟩
 loc:=fun b hb=>⟨(h'.loc b (h.loc b hb).1).1,fun hl=>((h'.loc b (h.loc b hb).1).2 (fun hl'=>hl (hL b hb hl'))).trans ((h.loc b hb).2 hl)⟩
 below:=fun b hb=>(h'.below b (by rw [h.N]; exact hb)).trans (h.below b hb)
 tok:=by
  intro t p hp
  obtain ⟨p',h1,h2,h3⟩:=h.tok t p hp
  obtain ⟨p'',h4,h5,h6⟩:=h'.tok t p' h1
  refine ⟨p'',h4,Nat.le_trans h2 h5,fun e=>?_⟩
  have e1:p'=p'':=by omega
  have e2:p=p':=by omega
  rw [h6 e1,h3 e2]
 prot:=by
  intro id h1 h2
  obtain ⟨a,b⟩:=h.prot id h1 h2
  obtain ⟨a',b'⟩:=h'.prot id h1 (Nat.lt_of_lt_of_le h2 h.nO)
  exact ⟨a'.trans a,fun c hc=>(b' c (a.trans hc)).trans (b c hc)⟩
 protT:=by
  intro t h1 h2
  obtain ⟨a,b,c⟩:=h.protT t h1 h2
  have h3:t<K'.toks.length:=by
   rw [List.getElem?_eq_getElem h2] at b
   exact (List.getElem?_eq_some_iff.1 b).1
  obtain ⟨a',b',c'⟩:=h'.protT t h1 h3
  exact ⟨a'.trans a,b'.trans b,fun ti hti=>(c' ti (a.trans hti)).trans (c ti hti)⟩
theorem Ext.mono {L L':Nat→Prop} {bo bt:Nat} {K K':Ctx} (h:Ext L bo bt K K') (hL:∀ b,L b→L' b):Ext L' bo bt K K' :=
 { h with loc:=fun b hb=>⟨(h.loc b hb).1,fun hn=>(h.loc b hb).2 (fun hl=>hn (hL b hl))⟩ }
theorem TagOk.ext {L:Nat→Prop} {bo bt:Nat} {K K':Ctx} (e:Ext L bo bt K K') {tag:Tag} {b off len cap sz:Nat} (h:TagOk K tag b off len cap sz):TagOk K' tag b off len cap sz:=by
 cases tag with
 | imm=>trivial
 | exact=>exact h
 | tok t pos ty =>
  obtain ⟨hN,hlp,p,hp,hle,hq⟩:=h
  obtain ⟨p',hp',hle',hq'⟩:=e.tok t p hp
  refine ⟨by rw [e.N]; exact hN,hlp,p',hp',by omega,fun e1=>?_⟩
  have e2:pos=p:=by omega
  rw [hq' (by omega)]
  exact hq e2
theorem VR.ext {L:Nat→Prop} {bo bt:Nat} {K K':Ctx} (e:Ext L bo bt K K') {g:GV} {v:Value} (h:VR K g v):VR K' g v:=by
 induction h with
 | bool b=>exact .bool b
 | int k n=>exact .int k n
 | str s=>exact .str s
 | nilptr=>exact .nilptr
 | ptr hid h=>exact .ptr (Nat.lt_of_lt_of_le hid e.nO) (fun c hc=>h c (e.φ _ _ hid hc))
 | nilsl=>exact .nilsl
 | sl hcap hmax hsz hI hv htag ih =>
  refine .sl hcap hmax hsz (fun i x j c hx hc=>?_) ih (htag.ext e)
  obtain ⟨h1,h2⟩:=hI i x j c hx hc
  exact ⟨(e.imm _ _ h1).1,(e.imm _ _ h1).2.trans h2⟩
 | emp a ht=>exact .emp a ht
 | hsl hid h hcap hmax=>exact .hsl (Nat.lt_of_lt_of_le hid e.nO) (fun c hc=>by rw [e.κ _ hid]; exact h c (e.φ _ _ hid hc)) hcap hmax
 | nilmap=>exact .nilmap
 | map hid h=>exact .map (Nat.lt_of_lt_of_le hid e.nO) (fun c hc=>h c (e.φ _ _ hid hc))
 | nilfunc=>exact .nilfunc
 | func hx hy h1 h2 ih1 ih2=>exact .func hx hy ih1 ih2
 | niliface=>exact .niliface
 | iface h ih=>exact .iface ih
 | agg hl h ih=>exact .agg hl ih
 | tup hl h ih=>exact .tup hl ih
 | el ho hI hv ih =>
  refine .el ho (fun j c hc=>?_) ih
  obtain ⟨h1,h2⟩:=hI j c hc
  exact ⟨(e.imm _ _ h1).1,(e.imm _ _ h1).2.trans h2⟩
def zpl (ag:Bool) (ls:List Leaf) (es:List (GV × GV)):Prop:=(∀ p∈es,zaA ag ls p.1=true)∧es.Pairwise (fun a b=>a.1≠b.1)
def zAJ (K:Ctx) (es:List (GV × GV)) (ents:Array MapEntry) (clock:Nat):Prop :=
 ((∀ m∈ents.toList,m.born<clock)∧ents.toList.Pairwise (fun a b=>a.born≠b.born))∧∃ es':List (GV × GV),es'.Perm es∧es'.length=ents.size ∧
   ∀ (i:Nat) p m,es'[i]?=some p→ents[i]?=some m→VR K p.1 m.key∧VR K p.2 m.val
def ObjR (K:Ctx) (ro id:Nat):GObj→Prop
 | .cells t cs=>∃ b vs elem fr,K.φ id=some b∧K.w.heap[b]?=some (.cells vs elem fr)∧(elem=t∧(ro≤id→fr=(0,0)))∧cs.length=vs.size ∧
  ∀ (i:Nat) c v,cs[i]?=some c→vs[i]?=some v→VR K c v
 | .row t cs=>id<K.nO∧ro≤id∧∃ b vs,K.φ id=some b∧K.w.heap[b]?=some (.cells vs t (0,0))∧vs.size=K.κ id∧cs.length≤vs.size ∧
  ∀ (i:Nat) c v,cs[i]?=some c→vs[i]?=some v→VR K c v
 | .map ag ls es=>zpl ag ls es∧∃ b ents clock,K.φ id=some b∧K.w.heap[b]?=some (.map ents clock)∧zAJ K es ents clock
 | .dead=>True
structure HR (ro:Nat) (K:Ctx) (H:GH):Prop where
 nO:H.objs.length=K.nO
 toks:H.toks=K.toks
 bo:ro≤H.bo
 bt:H.bt≤K.toks.length
 obj:∀ id o,H.objs[id]?=some o→ObjR K ro id o
 inj:∀ id id' b,K.φ id=some b→K.φ id'=some b→id=id'
 dom:∀ id b,K.φ id=some b→id<K.nO∧b<K.w.heap.size∧¬ K.ρ b∧(ro≤id→K.N≤b)
 glob:∀ g b,g<ro→K.φ g=some b→b=g
 roN:ro≤K.nO
 tok:∀ t ti,K.τ t=some ti→t<K.toks.length∧ti.b<K.w.heap.size∧K.N≤ti.b∧¬ K.ρ ti.b∧(∀ id,K.φ id≠some ti.b) ∧
  ∃ cur lo hi,K.w.heap[ti.b]?=some (.cells cur ti.elem (lo,hi))∧ti.fend≤ti.cend∧ti.cend≤cur.size∧(lo=hi∨hi≤ti.fend)
 tinj:∀ t t' ti ti',K.τ t=some ti→K.τ t'=some ti'→ti.b=ti'.b→t=t'
 size:K.N≤K.w.heap.size
 loc:∀ b,K.ρ b→K.N≤b∧b<K.w.heap.size
 dat:∀ w':World,(∀ b,b<K.N→w'.heap[b]?=K.w.heap[b]?)→Facts.D w'
theorem HR.to {ro:Nat} {K K':Ctx} {H:GH} (hr:HR ro K H) (hN:K'.N=K.N) (hb:∀ b,b<K.N→K'.w.heap[b]?=K.w.heap[b]?) :
 ∀ w':World,(∀ b,b<K'.N→w'.heap[b]?=K'.w.heap[b]?)→Facts.D w' :=
 fun w' h=>hr.dat w' (fun b hb'=>(h b (by rw [hN]; exact hb')).trans (hb b hb'))
def SR (K:Ctx) (lam:Nat→Option Nat) (g:GV) (v:Value):Prop :=
 match g with
 | .junk=>True
 | .lbox n cs=>∃ b vs elem,lam n=some b∧v=.pointer (some ⟨b,0,none⟩)∧K.w.heap[b]?=some (.cells vs elem (0,0))∧cs.length=vs.size ∧
  ∀ (i:Nat) c u,cs[i]?=some c→vs[i]?=some u→VR K c u
 | .laddr _ n off=>∃ b,lam n=some b∧v=.pointer (some ⟨b,off,none⟩)
 | .siter n s pos=>∃ b,lam n=some b∧v=.pointer (some ⟨b,0,none⟩)∧K.w.heap[b]?=some (.stringIter s pos)
 | g=>VR K g v
def zdE:GV→Nat→Prop
 | .lbox n _,m=>n=m
 | .siter n _ _,m=>n=m
 | _,_=>False
structure FR (K:Ctx) (lam:Nat→Option Nat) (nt:Nat) (e:Env) (a:Act):Prop where
 size:a.tmps.size=nt
 defers:a.defers=[]
 slot:∀ t,SR K lam (zag e.s t) (a.tmps.getD t undef)
 lamρ:∀ n b,lam n=some b→K.ρ b
 linj:∀ n n' b,lam n=some b→lam n'=some b→n=n'
 gen:∀ n,e.gen≤n→lam n=none
 one:∀ t t' n,zdE (zag e.s t) n→zdE (zag e.s t') n→t=t'
theorem SR.vr {K:Ctx} {lam:Nat→Option Nat} {g:GV} {v:Value} (h:SR K lam g v) (hg:g.ok=true):VR K g v:=by
 cases g <;> first | exact h | simp [GV.ok] at hg
theorem SR.of {K:Ctx} {lam:Nat→Option Nat} {g:GV} {v:Value} (h:VR K g v):SR K lam g v:=by
 have hg:=h.ok
 cases g <;> first | exact h | simp [GV.ok] at hg
def Own (lam:Nat→Option Nat) (b:Nat):Prop:=∃ n,lam n=some b
end Go.Sh
namespace Go.Sh
theorem zah (l:List GV) (i j:Nat) (v:GV):zag (lput l i v) j=if j=i then v else zag l j:=by
 induction l generalizing i j with
 | nil =>
  induction i generalizing j with
  | zero=>cases j <;> simp [lput,zag]
  | succ i ih =>
   cases j with
   | zero=>simp [lput,zag]
   | succ j =>
    have:=ih j
    simp [zag] at this
    simpa [lput,zag] using this
 | cons x l ih =>
  cases i with
  | zero=>cases j <;> simp [lput,zag]
  | succ i =>
   cases j with
   | zero=>simp [lput,zag]
   | succ j =>
    have:=ih i j
    simp [zag] at this
    simpa [lput,zag] using this
theorem znY (t:Array Value) (d j:Nat) (v u:Value) (hd:d<t.size):(t.setIfInBounds d v).getD j u=if j=d then v else t.getD j u:=by
 by_cases h:j=d
 ·subst h; simp [hd]
 ·simp [h,Array.getElem?_setIfInBounds_ne (Ne.symm h)]
variable [Facts]
theorem Ext.none {L:Nat→Prop} {bo bt:Nat} {K K':Ctx} (h:Ext (fun _=>False) bo bt K K'):Ext L bo bt K K':=h.mono (fun _ h=>h.elim)
theorem SR.ext {L:Nat→Prop} {bo bt:Nat} {K K':Ctx} (e:Ext L bo bt K K') {lam lam':Nat→Option Nat} (hl:∀ n b,lam n=some b→lam' n=some b)
 {g:GV} {v:Value} (hs:∀ n b,zdE g n→lam n=some b→K'.w.heap[b]?=K.w.heap[b]?) (h:SR K lam g v):SR K' lam' g v:=by
 cases g <;> simp only [SR] at h ⊢ <;> first
  | trivial
  | exact h.ext e
  | (obtain ⟨b,vs,elem,h1,h2,h3,h4,h5⟩:=h
     exact ⟨b,vs,elem,hl _ _ h1,h2,(hs _ _ rfl h1).trans h3,h4,fun i c u hc hu=>(h5 i c u hc hu).ext e⟩)
  | (obtain ⟨b,h1,h2⟩:=h
     exact ⟨b,hl _ _ h1,h2⟩)
  | (obtain ⟨b,h1,h2,h3⟩:=h
     exact ⟨b,hl _ _ h1,h2,(hs _ _ rfl h1).trans h3⟩)
theorem FR.step {L:Nat→Prop} {bo bt:Nat} {K K':Ctx} {lam lam':Nat→Option Nat} {nt:Nat} {e:Env} {a:Act} (fr:FR K lam nt e a) (x:Ext L bo bt K K')
 (hl:∀ n b,lam n=some b→lam' n=some b) (hρ:∀ n b,lam' n=some b→K'.ρ b) (hinj:∀ n n' b,lam' n=some b→lam' n'=some b→n=n')
 {f:Eff} {B:Nat} (hgen:∀ n,B≤n→lam' n=none) {m:Option Nat}
 (hs:∀ n b,lam n=some b→some n≠m→K'.w.heap[b]?=K.w.heap[b]?)
 {dst:Option Nat} (hd:∀ d,dst=some d→d<nt) {rv:Value} (hv:SR K' lam' f.v rv) (hvn:∀ n,zdE f.v n→lam n=none)
 (hb:∀ n,m=some n→∃ s g,f.box=some (s,g)∧zdE (zag e.s s) n)
 (hb':∀ s g,f.box=some (s,g)→SR K' lam' g (a.tmps.getD s undef)∧∃ n,zdE (zag e.s s) n∧∀ k,zdE g k→k=n) :
 FR K' lam' nt { ((e.box f.box).put dst f.v) with gen:=B } (a.put dst rv):=by
 have hsz:a.tmps.size=nt:=fr.size
 have old:∀ t,(∀ s g,f.box=some (s,g)→t≠s)→SR K' lam' (zag e.s t) (a.tmps.getD t undef):=by
  intro t ht
  refine (fr.slot t).ext x hl (fun n b hn hln=>hs n b hln (fun em=>?_))
  obtain ⟨s,g,h1,h2⟩:=hb n em.symm
  exact ht s g h1 (fr.one t s n hn h2)
 have mid:∀ t,SR K' lam' (zag (e.box f.box).s t) (a.tmps.getD t undef):=by
  intro t
  cases hbx:f.box with
  | none=>exact old t (fun s g h=>by rw [hbx] at h; cases h)
  | some q =>
   obtain ⟨s,g⟩:=q
   simp only [Env.box,zah]
   by_cases hts:t=s
   ·subst hts; rw [if_pos rfl]; exact (hb' t g hbx).1
   ·rw [if_neg hts]; exact old t (fun s' g' h=>by rw [hbx] at h; cases h; exact hts)
 have boxgen:∀ t n,zdE (zag e.s t) n→∃ b,lam n=some b:=by
  intro t n hn
  have hsr:=fr.slot t
  cases hgv:zag e.s t <;> rw [hgv] at hn hsr <;> simp only [zdE] at hn <;> simp only [SR] at hsr
  ·subst hn; obtain ⟨b,_,_,h1,_⟩:=hsr; exact ⟨b,h1⟩
  ·subst hn; obtain ⟨b,h1,_⟩:=hsr; exact ⟨b,h1⟩
 have midone:∀ t n,zdE (zag (e.box f.box).s t) n→zdE (zag e.s t) n:=by
  intro t n hn
  cases hbx:f.box with
  | none=>rw [hbx] at hn; exact hn
  | some q =>
   obtain ⟨s,g⟩:=q
   rw [hbx] at hn
   simp only [Env.box,zah] at hn
   by_cases hts:t=s
   ·subst hts
    rw [if_pos rfl] at hn
    obtain ⟨_,k,h1,h2⟩:=hb' t g hbx
    rw [h2 n hn]; exact h1
   ·rw [if_neg hts] at hn; exact hn
 cases dst with
 | none =>
  exact ⟨hsz,fr.defers,mid,hρ,hinj,hgen,fun t t' n h h'=>fr.one t t' n (midone t n h) (midone t' n h')⟩
 | some d =>
  have hdn:d<a.tmps.size:=by rw [hsz]; exact hd d rfl
  refine ⟨by simp [Act.put,hsz],fr.defers,fun t=>?_,hρ,hinj,hgen,fun t t' n h h'=>?_⟩
  ·simp only [Env.put,Act.put,zah]
   rw [znY _ _ _ _ _ hdn]
   by_cases htd:t=d
   ·rw [if_pos htd,if_pos htd]; exact hv
   ·rw [if_neg htd,if_neg htd]; exact mid t
  ·simp only [Env.put,zah] at h h'
   by_cases htd:t=d <;> by_cases htd':t'=d
   ·rw [htd,htd']
   ·rw [if_pos htd] at h; rw [if_neg htd'] at h'
    have h1:=hvn n h
    obtain ⟨b,h2⟩:=boxgen t' n (midone t' n h')
    rw [h1] at h2; cases h2
   ·rw [if_neg htd] at h; rw [if_pos htd'] at h'
    have h1:=hvn n h'
    obtain ⟨b,h2⟩:=boxgen t n (midone t n h)
    rw [h1] at h2; cases h2
   ·rw [if_neg htd] at h; rw [if_neg htd'] at h'
    exact fr.one t t' n (midone t n h) (midone t' n h')
end Go.Sh
namespace Go.Sh
def zhj:List Src→List Nat
 | []=>[]
 | .slot t::l=>t::zhj l
 | .val _::l=>zhj l
structure Foot where
 rd:List Nat
 wr:List Nat
 hr:Bool
 hw:Bool
 gn:Bool
 gr:Bool
 ob:Bool
 tk:Bool
def zfJ (ak:Option AK):Prim→Option Foot
 | .allocL _ | .boxL | .range=>some ⟨[],[],false,false,true,true,false,false⟩
 | .allocH _ _ | .boxH _ | .buildR _ _ _ _ _ | .makeR _ _ _ _=>some ⟨[],[],true,true,false,false,false,false⟩
 | .load _ _=>match ak with
  | some (.loc s)=>some ⟨[s],[],false,false,false,false,false,false⟩
  | some .el=>some ⟨[],[],false,false,false,false,false,false⟩
  | some .heap=>some ⟨[],[],true,false,false,false,true,false⟩
  | none=>none
 | .store _=>match ak with
  | some (.loc s)=>some ⟨[s],[s],false,false,false,false,false,false⟩
  | some .heap=>some ⟨[],[],true,true,false,false,false,false⟩
  | _=>none
 | .append _ _ _ | .appendS _ | .appendN _ _ _ | .call _ | .callv=>some ⟨[],[],true,true,false,false,false,false⟩
 | .freeze | .loadF | .clearR _ _ | .mkmap _ _ | .mset _ _ | .mdel _ _=>some ⟨[],[],true,true,false,false,false,false⟩
 | .mlook _ _ _ _ | .mlen=>some ⟨[],[],true,false,false,false,true,false⟩
 | .appendT _ _ _=>some ⟨[],[],false,false,false,false,false,true⟩
 | .callP _ | .b2r=>some ⟨[],[],true,false,false,false,false,false⟩
 | .allocK _ _ | .boxK _ | .rangeK _=>some ⟨[],[],false,false,false,true,false,false⟩
 | .next | .trap=>none
 | _=>some ⟨[],[],false,false,false,false,false,false⟩
def zdi (o:IOp):Option Foot:=(zfJ o.ak o.prim).map fun f =>
 { f with rd:=zhj o.args++((o.guard.map (·.1)).toList++f.rd),wr:=o.dst.toList++f.wr }
def zjg (a b:List Nat):Bool:=a.all fun x=>!b.contains x
def zvI (x y:Foot):Bool :=
 zjg x.wr y.rd&&zjg x.wr y.wr&&zjg y.wr x.rd&&!(x.hw&&y.hr)&&!(y.hw&&x.hr)&&!(x.hw&&y.hw)&&!(x.gn&&(y.gn || y.gr))&&!(y.gn&&(x.gn || x.gr))&&!(x.tk&&(y.tk || (y.hr&&!y.ob)))&&!(y.tk&&(x.tk || (x.hr&&!x.ob)))&&!(x.tk&&y.hw)&&!(y.tk&&x.hw)
theorem zjh {a b:List Nat} (h:zjg a b=true) {x:Nat} (hx:x∈a):x ∉ b:=by
 simp only [zjg,List.all_eq_true] at h
 simpa using h x hx
structure Upd where
 ws:List (Nat × GV)
 H:Option GH
 T:Option (List Nat)
 gen:Option Nat
def zc9 (l:List GV) (ws:List (Nat × GV)):List GV:=ws.foldl (fun l p=>lput l p.1 p.2) l
def St.upd (s:St) (u:Upd):St:={ e:={ s:=zc9 s.e.s u.ws,gen:=u.gen.getD s.e.gen },H:={ (u.H.getD s.H) with toks:=u.T.getD (u.H.getD s.H).toks } }
theorem zsz (l:List GV) {i j:Nat} (h:i≠j) (v w:GV):lput (lput l i v) j w=lput (lput l j w) i v:=by
 induction l generalizing i j with
 | nil =>
  induction i generalizing j with
  | zero =>
   cases j with
   | zero=>exact absurd rfl h
   | succ j=>rfl
  | succ i ih =>
   cases j with
   | zero=>rfl
   | succ j=>simp only [lput]; rw [ih (by omega)]
 | cons x l ih =>
  cases i with
  | zero =>
   cases j with
   | zero=>exact absurd rfl h
   | succ j=>rfl
  | succ i =>
   cases j with
   | zero=>rfl
   | succ j=>simp only [lput]; rw [ih (by omega)]
theorem zpm (ws:List (Nat × GV)):∀ (l:List GV) (i:Nat) (v:GV),(∀ p∈ws,p.1≠i)→zc9 (lput l i v) ws=lput (zc9 l ws) i v:=by
 induction ws with
 | nil=>intro l i v _; rfl
 | cons p ws ih =>
  intro l i v h
  simp only [zc9,List.foldl_cons]
  have h1:=h p (List.mem_cons_self ..)
  rw [zsz l (Ne.symm h1)]
  exact ih _ _ _ (fun q hq=>h q (List.mem_cons_of_mem _ hq))
theorem zpn (a b:List (Nat × GV)):∀ (l:List GV),(∀ p∈a,∀ q∈b,p.1≠q.1)→zc9 (zc9 l a) b=zc9 (zc9 l b) a:=by
 induction a with
 | nil=>intro l _; rfl
 | cons p a ih =>
  intro l h
  have e1:zc9 l (p::a)=zc9 (lput l p.1 p.2) a:=rfl
  have e2:zc9 (zc9 l b) (p::a)=zc9 (lput (zc9 l b) p.1 p.2) a:=rfl
  rw [e1,e2,ih _ (fun q hq r hr=>h q (List.mem_cons_of_mem _ hq) r hr),zpm b l p.1 p.2 (fun q hq=>(h p (List.mem_cons_self ..) q hq).symm)]
theorem zpo (ws:List (Nat × GV)):∀ (l:List GV) (t:Nat),(∀ p∈ws,p.1≠t)→zag (zc9 l ws) t=zag l t:=by
 induction ws with
 | nil=>intro l t _; rfl
 | cons p ws ih =>
  intro l t h
  have e1:zc9 l (p::ws)=zc9 (lput l p.1 p.2) ws:=rfl
  rw [e1,ih _ _ (fun q hq=>h q (List.mem_cons_of_mem _ hq)),zah,if_neg (fun e=>h p (List.mem_cons_self ..) e.symm)]
section
variable {call:Nat→List GV→GH→Option (GV × GH)}
structure Alike (ft:Foot) (s s':St):Prop where
 slot:∀ t∈ft.rd,zag s'.e.s t=zag s.e.s t
 H:ft.hr=true→ft.ob=false→s'.H=s.H
 Ho:ft.hr=true→ft.ob=true→s'.H.objs=s.H.objs
 T:ft.tk=true→s'.H.toks=s.H.toks∧s'.H.bt=s.H.bt
 gen:(ft.gn || ft.gr)=true→s'.e.gen=s.e.gen
theorem zpp {H H':GH} (h:H'.objs=H.objs) (ag:Bool) (ls:List Leaf) (m k:GV):ze8 H' ag ls m k=ze8 H ag ls m k:=by
 cases m <;> simp only [ze8,h]
theorem zpq {H H':GH} (h:H'.objs=H.objs) (m:GV):zpk H' m=zpk H m:=by
 cases m <;> simp only [zpk,h]
theorem zfK {H H':GH} (h:H'.toks=H.toks) (hb:H'.bt=H.bt) (ty sz bytes:Nat) (s x:GV):zbN H' ty sz bytes s x=zbN H ty sz bytes s x:=by
 cases s <;> simp only [zbN,zaU,h,hb]
 all_goals
  cases zbK sz x with
  | none=>rfl
  | some news =>
   simp only [Option.bind_some]
   repeat' split
   all_goals first | rfl | simp only [Option.map_some,h]
theorem zji {ak:Option AK} {p:Prim} {ft:Foot} (hf:zfJ ak p=some ft) {args:List GV} (hak:zqy ak args=true) {e e':Env} {H H':GH}
 (h1:∀ t∈ft.rd,zag e'.s t=zag e.s t) (h2:ft.hr=true→ft.ob=false→H'=H) (h2o:ft.hr=true→ft.ob=true→H'.objs=H.objs) (h4:ft.tk=true→H'.toks=H.toks∧H'.bt=H.bt) (h3:(ft.gn || ft.gr)=true→e'.gen=e.gen) :
 zao call p args e' H'=(zao call p args e H).map fun f=>⟨f.v,f.box,if ft.hw then f.H else if ft.tk then { H' with toks:=f.H.toks } else H',if ft.gn then f.gen else e'.gen⟩:=by
 have dr:∀ (sl:Nat) g,zag e'.s sl=zag e.s sl→zef e' sl g=zef e sl g:=fun sl g h=>by unfold zef; rw [h]
 cases p <;> simp only [zfJ,Option.some.injEq] at hf
 case load sz ag =>
  cases ak with
  | none=>cases hf
  | some k =>
   cases args with
   | nil=>cases hak
   | cons a args =>
    cases args with
    | cons b args=>cases k <;> (simp only [Option.some.injEq] at hf; subst hf; rfl)
    | nil =>
     cases k <;> simp only [Option.some.injEq] at hf <;> subst hf <;> cases a <;> simp [zqy,AK.fits] at hak
     ·subst hak
      simp only [zao,zdD,Option.map_map,Function.comp_def,if_false,Bool.false_eq_true]
      rw [dr _ _ (h1 _ (List.mem_cons_self ..))]
     ·simp only [zao,zdD,Option.map_map,Function.comp_def,if_false,Bool.false_eq_true]
     ·simp only [zao,zdD,Option.map_map,Function.comp_def,if_false,Bool.false_eq_true]
      rw [h2o rfl rfl]
 case store sz =>
  cases ak with
  | none=>cases hf
  | some k =>
   cases args with
   | nil=>cases hak
   | cons a args =>
    cases args with
    | nil=>cases k <;> first | (cases hf; done) | (simp only [Option.some.injEq] at hf; subst hf; rfl)
    | cons x args =>
     cases args with
     | cons b args=>cases k <;> first | (cases hf; done) | (simp only [Option.some.injEq] at hf; subst hf; rfl)
     | nil =>
      cases k with
      | el=>cases hf
      | loc sl =>
       simp only [Option.some.injEq] at hf
       subst hf
       cases a <;> simp [zqy,AK.fits] at hak
       subst hak
       simp only [zao]
       split
       ·rw [dr _ _ (h1 _ (List.mem_cons_self ..))]
        simp only [Option.map_bind,Option.map_map,Function.comp_def,if_false,Bool.false_eq_true]
       ·rfl
      | heap =>
       simp only [Option.some.injEq] at hf
       subst hf
       cases a <;> simp [zqy,AK.fits] at hak
       rw [h2 rfl rfl]
       simp only [zao]
       split
       ·split
        ·split
         ·simp only [Option.map_map,Function.comp_def,if_false,Bool.false_eq_true]
         ·rfl
        ·split
         ·simp only [Option.map_map,Function.comp_def,if_false,Bool.false_eq_true]
         ·rfl
        ·rfl
       ·rfl
 case makeR =>
  subst hf
  rw [h2 rfl rfl]
  simp only [zao]
  split
  ·simp only [Option.map_map,Function.comp_def,if_true,if_false,Bool.false_eq_true]
  ·rfl
 case boxI =>
  subst hf
  cases args with
  | nil=>rfl
  | cons x l =>
   cases l with
   | nil =>
    simp only [zao]
    split <;> rfl
   | cons y l=>rfl
 case freeze =>
  subst hf
  rw [h2 rfl rfl]
  simp [zao,Option.map_map,Function.comp_def]
 case clearR =>
  subst hf
  rw [h2 rfl rfl]
  simp [zao,Option.map_map,Function.comp_def]
 case loadF =>
  subst hf
  rw [h2 rfl rfl]
  simp only [zao]
  split
  ·simp only [Option.map_map,Function.comp_def,if_true,if_false,Bool.false_eq_true]
  ·rfl
 case appendN =>
  subst hf
  rw [h2 rfl rfl]
  simp only [zao]
  split
  ·simp only [Option.map_map,Function.comp_def,if_true,if_false,Bool.false_eq_true]
  ·rfl
 case mkmap =>
  subst hf
  rw [h2 rfl rfl]
  simp only [zao]
  split
  ·simp [Option.map_map,Function.comp_def]
  ·rfl
 case mset =>
  subst hf
  rw [h2 rfl rfl]
  simp only [zao]
  split
  ·simp [Option.map_map,Function.comp_def]
  ·rfl
 case mdel =>
  subst hf
  rw [h2 rfl rfl]
  simp only [zao]
  split
  ·simp [Option.map_map,Function.comp_def]
  ·rfl
 case mlook =>
  subst hf
  simp only [zao]
  split
  ·rw [zpp (h2o rfl rfl)]
   simp only [Option.map_map,Function.comp_def,if_false,Bool.false_eq_true]
  ·rfl
 case mlen =>
  subst hf
  simp only [zao]
  split
  ·rw [zpq (h2o rfl rfl)]
   simp only [Option.map_map,Function.comp_def,if_false,Bool.false_eq_true]
  ·rfl
 case b2r =>
  subst hf
  rw [h2 rfl rfl]
  simp only [zao,Option.map_map,Function.comp_def,if_false,Bool.false_eq_true]
 case append =>
  subst hf
  rw [h2 rfl rfl]
  simp only [zao]
  split
  ·simp only [Option.map_map,Function.comp_def,if_true,if_false,Bool.false_eq_true]
  ·rfl
 case appendT =>
  subst hf
  simp only [zao]
  split
  ·rw [zfK (h4 rfl).1 (h4 rfl).2]
   simp only [Option.map_map,Function.comp_def,if_true,if_false,Bool.false_eq_true]
  ·rfl
 case appendS =>
  subst hf
  rw [h2 rfl rfl]
  simp only [zao]
  split
  ·simp only [Option.map_map,Function.comp_def,if_true,if_false,Bool.false_eq_true]
  ·rfl
 case call =>
  subst hf
  rw [h2 rfl rfl]
  simp only [zao]
  split
  ·simp only [Option.map_map,Function.comp_def,if_true,if_false,Bool.false_eq_true]
  ·rfl
 case callP =>
  subst hf
  rw [h2 rfl rfl]
  simp only [zao]
  split
  ·simp only [Option.map_map,Function.comp_def,if_false,Bool.false_eq_true]
  ·rfl
 case callv =>
  subst hf
  rw [h2 rfl rfl]
  simp only [zao]
  split
  ·split
   ·simp only [Option.map_map,Function.comp_def,if_true,if_false,Bool.false_eq_true]
   ·rfl
  ·rfl
 case next=>cases hf
 case trap=>cases hf
 case allocH=>subst hf; rw [h2 rfl rfl]; simp only [zao]; split <;> rfl
 case allocL=>subst hf; simp only [zao,h3 rfl]; split <;> rfl
 case range=>subst hf; simp only [zao,h3 rfl]; split <;> rfl
 case allocK=>subst hf; simp only [zao,h3 rfl]; split <;> rfl
 case rangeK=>subst hf; simp only [zao,h3 rfl]; split <;> rfl
 case boxK=>subst hf; simp only [zao,h3 rfl]; split <;> (try split) <;> rfl
 case buildSl=>subst hf; simp only [zao]; split <;> rfl
 case buildR=>subst hf; rw [h2 rfl rfl]; simp only [zao]; split <;> rfl
 case boxH=>subst hf; rw [h2 rfl rfl]; simp only [zao]; split <;> (try split) <;> rfl
 case boxL=>subst hf; simp only [zao,h3 rfl]; split <;> (try split) <;> rfl
 case s2b=>subst hf; simp only [zao]; split <;> (try split) <;> rfl
 all_goals
  subst hf
  simp only [zao,Option.map_map,Function.comp_def,if_false,Bool.false_eq_true]
theorem zfa {e e':Env} : ∀ (l:List Src),(∀ t∈zhj l,zag e'.s t=zag e.s t)→l.map (zac e')=l.map (zac e)
 | [],_=>rfl
 | .val g::l,h=>by
  simp only [List.map_cons]
  rw [zfa l h]
  rfl
 | .slot t::l,h=>by
  simp only [List.map_cons]
  rw [zfa l (fun u hu=>h u (List.mem_cons_of_mem _ hu))]
  have:zac e' (.slot t)=zac e (.slot t):=by
   unfold zac
   simp only
   rw [h t (List.mem_cons_self ..)]
  rw [this]
def zg8 (call:Nat→List GV→GH→Option (GV × GH)) (o:IOp) (hw tk gn:Bool) (s:St):Option Upd :=
 match zbm s.e o.guard with
 | none=>none
 | some false=>some ⟨o.dst.toList.map fun d=>(d,.tup []),none,none,none⟩
 | some true=>if zqy o.ak (o.args.map (zac s.e)) then
  (zao call o.prim (o.args.map (zac s.e)) s.e s.H).map fun f=>⟨f.box.toList++o.dst.toList.map (fun d=>(d,f.v)),if hw then some f.H else none,if tk then some f.H.toks else none,if gn then some f.gen else none⟩ else none
theorem zvJ (s:St) (f:Eff) (d:Option Nat):zc9 s.e.s (f.box.toList++d.toList.map (fun d=>(d,f.v)))=((s.e.box f.box).put d f.v).s:=by
 cases hb:f.box <;> cases d <;> rfl
theorem zgt {o:IOp} {ft:Foot} (hf:zdi o=some ft) (s:St):gop call o s=(zg8 call o ft.hw ft.tk ft.gn s).map s.upd:=by
 simp only [zdi,Option.map_eq_some_iff] at hf
 obtain ⟨ft0,h0,rfl⟩:=hf
 cases hgw:zbm s.e o.guard with
 | none=>simp only [gop,zg8,hgw]; rfl
 | some b =>
  cases b with
  | false =>
   simp only [gop,zg8,hgw,Option.map_some,Option.some.injEq]
   cases o.dst <;> rfl
  | true =>
   simp only [gop,zg8,hgw]
   by_cases hak:zqy o.ak (o.args.map (zac s.e))=true
   ·rw [if_pos hak,if_pos hak]
    have:=zji (call:=call) h0 hak (e:=s.e) (e':=s.e) (H:=s.H) (H':=s.H) (fun _ _=>rfl) (fun _ _=>rfl) (fun _ _=>rfl) (fun _=>⟨rfl,rfl⟩) (fun _=>rfl)
    cases hg:zao call o.prim (o.args.map (zac s.e)) s.e s.H with
    | none=>rfl
    | some f =>
     rw [hg] at this
     simp only [Option.map_some,Option.some.injEq] at this ⊢
     have e1:=congrArg Eff.H this
     have e2:=congrArg Eff.gen this
     simp only at e1 e2
     simp only [Eff.on,St.upd,zvJ]
     congr 1
     ·congr 1
      rw [e2]; cases ft0.gn <;> rfl
     ·rw [e1]; cases ft0.hw <;> cases ft0.tk <;> rfl
   ·rw [if_neg hak,if_neg hak]; rfl
theorem zdF {o:IOp} {ft:Foot} (hf:zdi o=some ft) {s s':St} (h:Alike ft s s'):zg8 call o ft.hw ft.tk ft.gn s'=zg8 call o ft.hw ft.tk ft.gn s:=by
 simp only [zdi,Option.map_eq_some_iff] at hf
 obtain ⟨ft0,h0,rfl⟩:=hf
 have ha:o.args.map (zac s'.e)=o.args.map (zac s.e):=zfa _ (fun t ht=>h.slot t (List.mem_append_left _ ht))
 have hg:zbm s'.e o.guard=zbm s.e o.guard:=by
  cases hgd:o.guard with
  | none=>rfl
  | some p =>
   simp only [zbm]
   rw [h.slot p.1 (List.mem_append_right _ (List.mem_append_left _ (by simp [hgd])))]
 simp only [zg8,ha,hg]
 split
 ·rfl
 ·rfl
 ·split
  ·rename_i hak
   have e1:=zji (call:=call) h0 hak (e:=s.e) (e':=s'.e) (H:=s.H) (H':=s'.H) (fun t ht=>h.slot t (List.mem_append_right _ (List.mem_append_right _ ht))) h.H h.Ho h.T h.gen
   rw [e1]
   simp only [Option.map_map,Function.comp_def]
   congr 1
   funext f
   cases ft0.hw <;> cases ft0.tk <;> cases ft0.gn <;> rfl
  ·rfl
theorem zez {o:IOp} {ft:Foot} (hf:zdi o=some ft) {s:St} {u:Upd} (h:zg8 call o ft.hw ft.tk ft.gn s=some u):(∀ p∈u.ws,p.1∈ft.wr)∧(ft.hw=false→u.H=none)∧(ft.tk=false→u.T=none)∧(ft.gn=false→u.gen=none):=by
 simp only [zdi,Option.map_eq_some_iff] at hf
 obtain ⟨ft0,h0,rfl⟩:=hf
 simp only [zg8] at h
 split at h
 ·cases h
 ·injection h with h
  subst h
  refine ⟨fun p hp=>?_,fun _=>rfl,fun _=>rfl,fun _=>rfl⟩
  cases hd:o.dst <;> rw [hd] at hp <;> simp at hp
  subst hp
  simp
 ·split at h
  ·rename_i hak
   simp only [Option.map_eq_some_iff] at h
   obtain ⟨f,hf,rfl⟩:=h
   refine ⟨fun p hp=>?_,fun hw=>?_,fun htk=>?_,fun hg=>?_⟩
   ·simp only [List.mem_append] at hp ⊢
    rcases hp with hp | hp
    ·right
     have hb:f.box=some p:=by cases hb:f.box <;> rw [hb] at hp <;> simp at hp; rw [hp]
     have hst:∃ sz,o.prim=.store sz:=by
      cases hpm:o.prim <;> rw [hpm] at hf h0 <;> simp only [zao,zfJ] at hf h0
      case store sz=>exact ⟨sz,rfl⟩
      all_goals exfalso
      all_goals first
       | (cases h0; done)
       | (simp only [Option.map_eq_some_iff] at hf; obtain ⟨_,_,rfl⟩:=hf; cases hb; done)
       | (repeat' split at hf
          all_goals first
           | (cases hf; done)
           | (simp only [Option.map_eq_some_iff] at hf; obtain ⟨_,_,rfl⟩:=hf; cases hb; done)
           | (injection hf with hf; subst hf; cases hb; done))
     obtain ⟨sz,hpm⟩:=hst
     rw [hpm] at hf h0
     simp only [zao,zfJ] at hf h0
     split at h0
     ·rename_i sl hk
      injection h0 with h0
      subst h0
      split at hf
      ·rename_i a x hargs
       rw [hargs,hk] at hak
       split at hf
       ·cases a <;> simp [zqy,AK.fits] at hak
        subst hak
        simp only [Option.bind_eq_some_iff,Option.map_eq_some_iff] at hf
        obtain ⟨_,_,_,_,rfl⟩:=hf
        injection hb with hb
        subst hb
        simp
       ·cases hf
      ·cases hf
     ·rename_i hk
      split at hf
      ·rename_i a x hargs
       rw [hargs,hk] at hak
       split at hf
       ·cases a <;> simp [zqy,AK.fits] at hak
        simp only at hf
        split at hf
        ·split at hf
         ·simp only [Option.map_eq_some_iff] at hf
          obtain ⟨_,_,rfl⟩:=hf
          cases hb
         ·cases hf
        ·split at hf
         ·simp only [Option.map_eq_some_iff] at hf
          obtain ⟨_,_,rfl⟩:=hf
          cases hb
         ·cases hf
        ·cases hf
       ·cases hf
      ·cases hf
     ·cases h0
    ·left
     cases hd:o.dst <;> rw [hd] at hp <;> simp at hp
     subst hp
     simp
   ·have hw:ft0.hw=false:=hw
    simp [hw]
   ·have htk:ft0.tk=false:=htk
    simp [htk]
   ·have hg:ft0.gn=false:=hg
    simp [hg]
  ·cases h
theorem zfL {ft fx:Foot} {s:St} {u:Upd} (h1:(∀ p∈u.ws,p.1∈fx.wr)∧(fx.hw=false→u.H=none)∧(fx.tk=false→u.T=none)∧(fx.gn=false→u.gen=none)) (hw:zjg fx.wr ft.rd=true) (hh:(fx.hw&&ft.hr)=false) (ht:(fx.tk&&(ft.tk || (ft.hr&&!ft.ob)))=false) (ht2:(ft.tk&&fx.hw)=false) (hg:(fx.gn&&(ft.gn || ft.gr))=false):Alike ft s (s.upd u) where
 slot t ht:=zpo _ _ _ (fun p hp e=>zjh hw (h1.1 p hp) (e ▸ ht))
 H h ho:=by
  have e1:fx.hw=false:=by simpa [h] using hh
  have e2:fx.tk=false:=by simpa [h,ho] using ht
  simp [St.upd,h1.2.1 e1,h1.2.2.1 e2]
 Ho h ho:=by
  have e1:fx.hw=false:=by simpa [h] using hh
  simp [St.upd,h1.2.1 e1]
 T h:=by
  have e1:fx.hw=false:=by simpa [h] using ht2
  have e2:fx.tk=false:=by simpa [h] using ht
  simp [St.upd,h1.2.1 e1,h1.2.2.1 e2]
 gen h:=by
  have:fx.gn=false:=by simpa [h] using hg
  simp [St.upd,h1.2.2.2 this]
theorem zvK {x y:IOp} {fx fy:Foot} (hx:zdi x=some fx) (hy:zdi y=some fy) (hi:zvI fx fy=true) (s:St):(gop call x s).bind (gop call y)=(gop call y s).bind (gop call x):=by
 simp only [zvI,Bool.and_eq_true,Bool.not_eq_true'] at hi
 obtain ⟨⟨⟨⟨⟨⟨⟨⟨⟨⟨⟨i1,i2⟩,i3⟩,i4⟩,i5⟩,i6⟩,i7⟩,i8⟩,t1⟩,t2⟩,t3⟩,t4⟩:=hi
 rw [zgt hx,zgt hy]
 cases hux:zg8 call x fx.hw fx.tk fx.gn s with
 | none =>
  cases huy:zg8 call y fy.hw fy.tk fy.gn s with
  | none=>rfl
  | some uy =>
   simp only [Option.map_none,Option.bind_none,Option.map_some,Option.bind_some]
   rw [zgt hx,zdF hx (zfL (zez hy huy) i3 i5 t2 t3 i8),hux]
   rfl
 | some ux =>
  cases huy:zg8 call y fy.hw fy.tk fy.gn s with
  | none =>
   simp only [Option.map_none,Option.bind_none,Option.map_some,Option.bind_some]
   rw [zgt hy,zdF hy (zfL (zez hx hux) i1 i4 t1 t4 i7),huy]
   rfl
  | some uy =>
   simp only [Option.map_some,Option.bind_some]
   rw [zgt hx,zgt hy,zdF hx (zfL (zez hy huy) i3 i5 t2 t3 i8),zdF hy (zfL (zez hx hux) i1 i4 t1 t4 i7),hux,huy]
   simp only [Option.map_some,Option.some.injEq]
   obtain ⟨a1,a2,a4,a3⟩:=zez hx hux
   obtain ⟨b1,b2,b4,b3⟩:=zez hy huy
   have e1:zc9 (zc9 s.e.s ux.ws) uy.ws=zc9 (zc9 s.e.s uy.ws) ux.ws:=zpn _ _ _ (fun p hp q hq e=>zjh i2 (a1 p hp) (e ▸ b1 q hq))
   have e2:uy.gen.getD (ux.gen.getD s.e.gen)=ux.gen.getD (uy.gen.getD s.e.gen):=by
    cases hfx:fx.gn with
    | false=>rw [a3 hfx]; rfl
    | true =>
     have:fy.gn=false:=by
      have:=i7; simp [hfx] at this; exact this.1
     rw [b3 this]; rfl
   have e3:(St.upd (St.upd s ux) uy).H=(St.upd (St.upd s uy) ux).H:=by
    simp only [St.upd]
    cases hfx:fx.hw with
    | true =>
     have h1:fy.hw=false:=by simpa [hfx] using i6
     have h2:fy.tk=false:=by simpa [hfx] using t4
     rw [b2 h1,b4 h2]
     rfl
    | false =>
     rw [a2 hfx]
     cases hfy:fy.hw with
     | true =>
      have h2:fx.tk=false:=by simpa [hfy] using t3
      rw [a4 h2]
      rfl
     | false =>
      rw [b2 hfy]
      cases hfx2:fx.tk with
      | false=>rw [a4 hfx2]; rfl
      | true =>
       have h2:fy.tk=false:=by
        have:=t1; simp [hfx2] at this; exact this.1
       rw [b4 h2]; rfl
   have e4:(St.upd (St.upd s ux) uy).e=(St.upd (St.upd s uy) ux).e:=by
    simp only [St.upd,e1,e2]
   cases hA:St.upd (St.upd s ux) uy
   cases hB:St.upd (St.upd s uy) ux
   rw [hA,hB] at e3 e4
   simp only at e3 e4
   rw [e3,e4]
theorem zmJ (l l':List IOp):∀ s,zbC call (l++l') s=(zbC call l s).bind (zbC call l'):=by
 induction l with
 | nil=>intro s; rfl
 | cons o l ih =>
  intro s
  simp only [List.cons_append,zbC]
  cases gop call o s with
  | none=>rfl
  | some s1=>simpa using ih s1
theorem zjj {x:IOp} (r2:List IOp):∀ (r1:List IOp),(∀ y∈r1,∃ fy fx,zdi y=some fy∧zdi x=some fx∧zvI fy fx=true)→∀ s,zbC call (r1++x::r2) s=zbC call (x::(r1++r2)) s:=by
 intro r1
 induction r1 with
 | nil=>intro _ s; rfl
 | cons y r1 ih =>
  intro h s
  obtain ⟨fy,fx,hy,hx,hi⟩:=h y (List.mem_cons_self ..)
  have ih':=ih (fun z hz=>h z (List.mem_cons_of_mem _ hz))
  have e1:zbC call (y::r1++x::r2) s=(gop call y s).bind (zbC call (r1++x::r2)):=rfl
  have e2:zbC call (x::(y::r1++r2)) s=(gop call x s).bind fun s=>(gop call y s).bind (zbC call (r1++r2)):=rfl
  rw [e1,e2]
  have e3:(gop call y s).bind (zbC call (r1++x::r2))=(gop call y s).bind fun s=>(gop call x s).bind (zbC call (r1++r2)):=by
   congr 1
   funext s
   exact ih' s
  rw [e3]
  have:=zvK (call:=call) hy hx hi s
  have:=congrArg (fun o=>o.bind (zbC call (r1++r2))) this
  simp only [Option.bind_assoc] at this
  exact this
end
def zvL (fx fi:Option Foot):Bool :=
 match fx,fi with
 | some a,some b=>zvI a b
 | _,_=>false
def zpr (pre prec:Nat→List Nat) (ft:Nat→Option Foot):List Nat→List Nat→Bool
 | _,[]=>true
 | dn,i::rest =>
  (pre i).all (fun x=>dn.contains x)&&!dn.contains i&&(prec i).all (fun x=>(pre i).contains x || (pre i).any fun y=>(prec y).contains x) &&
  dn.all (fun x=>(prec i).contains x || zvL (ft x) (ft i))&&zpr pre prec ft (i::dn) rest
theorem zco {pre prec:Nat→List Nat} {ft:Nat→Option Foot} : ∀ (l dn d:List Nat) (i:Nat) (r:List Nat),zpr pre prec ft dn l=true→l=d++i::r →
 (∀ x∈pre i,x∈dn∨x∈d)∧i ∉ dn∧i ∉ d∧(∀ x∈prec i,x∈pre i∨∃ y∈pre i,x∈prec y)∧∀ x,(x∈dn∨x∈d)→x∈prec i∨zvL (ft x) (ft i)=true:=by
 intro l
 induction l with
 | nil=>intro dn d i r _ h; simp at h
 | cons j l ih =>
  intro dn d i r h e
  simp only [zpr,Bool.and_eq_true,Bool.not_eq_true',List.all_eq_true] at h
  obtain ⟨⟨⟨⟨h1,h2⟩,h3⟩,h4⟩,h5⟩:=h
  cases d with
  | nil =>
   simp only [List.nil_append,List.cons.injEq] at e
   obtain ⟨rfl,rfl⟩:=e
   refine ⟨fun x hx=>.inl (by simpa using h1 x hx),by simpa using h2,by simp,fun x hx=>by simpa using h3 x hx,fun x hx=>?_⟩
   have:=h4 x (by simpa using hx)
   simpa using this
  | cons k d =>
   simp only [List.cons_append,List.cons.injEq] at e
   obtain ⟨rfl,e⟩:=e
   obtain ⟨g1,g2,g3,g4,g5⟩:=ih (j::dn) d i r h5 e
   refine ⟨fun x hx=>?_,fun h=>g2 (List.mem_cons_of_mem _ h),fun h=>?_,g4,fun x hx=>g5 x ?_⟩
   ·rcases g1 x hx with h | h
    ·rcases List.mem_cons.1 h with rfl | h
     ·exact .inr (List.mem_cons_self ..)
     ·exact .inl h
    ·exact .inr (List.mem_cons_of_mem _ h)
   ·rcases List.mem_cons.1 h with rfl | h
    ·exact g2 (List.mem_cons_self ..)
    ·exact g3 h
   ·rcases hx with h | h
    ·exact .inl (List.mem_cons_of_mem _ h)
    ·rcases List.mem_cons.1 h with rfl | h
     ·exact .inl (List.mem_cons_self ..)
     ·exact .inr h
def zbM (ro:Nat):Operand→Option Src
 | .tmp t=>some (.slot t)
 | .const v=>(zeY 8 v).map .val
 | .global g=>if g<ro then some (.val (.ptr g 0)) else none
 | .func f=>some (.val (.func f [] []))
def zaS (P:Program) (t:TypeId):Option Nat:=(P.info? t).map (·.size)
def zfM (P:Program) (t:TypeId):Option Nat:=(P.info? t).map (·.bytes)
def zcz (P:Program) (t:TypeId):Option GV:=((P.info? t).bind (·.zero)).bind (zeY 8)
def zg9 (P:Program) (t:TypeId):Option Bool :=
 match P.underlying t with
 | some (.struct _) | some (.array _ _)=>some true
 | some _=>some false
 | none=>none
def zfN (P:Program) (rec:TypeId→Option (List Leaf)):List Field→Nat→Option (List Leaf)
 | [],_=>some []
 | f::fs,off =>
  if f.name = "_" ∨ f.offset≠off then none else
   match rec f.type,zaS P f.type,zg9 P f.type with
   | some l,some n,some ag=>if l.length=n∧(ag=true∨n=1) then (zfN P rec fs (off+n)).map (l++·) else none
   | _,_,_=>none
def zcT (P:Program):Nat→TypeId→Option (List Leaf)
 | 0,_=>none
 | d+1,t=>match P.underlying t with
  | some .bool=>some [.bool]
  | some (.int k)=>some [.int k]
  | some .string=>some [.str]
  | some (.struct fs)=>if P.stoodInHeld t then none else zfN P (zcT P d) fs.toList 0
  | some (.array n e)=>match zcT P d e,zaS P e,zg9 P e with
   | some l,some k,some ag=>if l.length=k∧(ag=true∨k=1) then some ((List.replicate n l).flatten) else none
   | _,_,_=>none
  | _=>none
def zgu (P:Program) (t:TypeId):Option Leaf :=
 match P.underlying t with
 | some .bool=>some .bool
 | some (.int k)=>some (.int k)
 | some .string=>some .str
 | _=>none
def zb0 (P:Program):Nat→List Field→Option (List Leaf)
 | _,[]=>some []
 | o,f::fs=>if f.offset=o∧f.name ≠ "_" ∧ P.cellsOf f.type=1 then match zgu P f.type,zb0 P (o+1) fs with
  | some l,some ls=>some (l::ls)
  | _,_=>none
  else none
def zaY (P:Program) (k:TypeId):Option (Bool × List Leaf) :=
 match P.underlying k with
 | some (.struct fs)=>if k<P.types.size∧P.keyTypeAt 3 k=true∧P.keyType k=true∧P.cellsOf k=fs.size then (zb0 P 0 fs.toList).map fun ls=>(true,ls) else none
 | some _=>(zgu P k).map fun l=>(false,[l])
 | none=>none
def zbn (ro:Nat) (l:List Operand):Option (List Src):=l.mapM (zbM ro)
def zps (ro:Nat):Option Operand→Option (List Src)
 | none=>some []
 | some x=>(zbM ro x).map ([·])
def zcN:Operand→Bool
 | .const _=>true
 | _=>false
def zhO (hp:List Nat) (k:Nat):Option Nat→Bool
 | some d=>hp.contains (d+k)
 | none=>false
def zlf (P:Program) (ro:Nat) (rowA:Bool) (c:Call):Option (Prim × List Src) :=
 match c.callee with
 | .value (.func f)=>(zbn ro c.args.toList).map fun as=>(.call f,as)
 | .value x=>(zbn ro (x::c.args.toList)).map fun as=>(.callv,as)
 | .builtin .len=>match c.args.toList,c.argTypes.toList with
  | [x],[t]=>match P.underlying t with
   | some .string=>(zbM ro x).map fun x=>(.lenstr,[x])
   | some (.slice _)=>(zbM ro x).map fun x=>(.lensl,[x])
   | some (.map _ _)=>(zbM ro x).map fun x=>(.mlen,[x])
   | some (.array n _)=>(zbM ro x).map fun x=>(.lenN n,[x])
   | some (.pointer a)=>match P.underlying a with
    | some (.array n _)=>(zbM ro x).map fun x=>(.lenN n,[x])
    | _=>none
   | _=>none
  | _,_=>none
 | .builtin .append=>match c.args.toList,c.argTypes.toList with
  | [s,x],[t,u]=>match P.underlying t,P.underlying u with
   | some (.slice e),some (.slice _)=>match zaS P e,zfM P e,zcz P e,zbM ro s,zbM ro x with
    | some sz,some by_,some z,some s,some x=>if z.cells.length=sz then some (if rowA then .appendN e sz by_ else .append e sz by_,[s,x]) else none
    | _,_,_,_,_=>none
   | some (.slice e),some .string=>match zaS P e,zfM P e,zcz P e,zbM ro s,zbM ro x with
    | some sz,some by_,some z,some s,some x=>if z.cells.length=sz∧sz=1∧by_=1 then some (.appendS e,[s,x]) else none
    | _,_,_,_,_=>none
   | _,_=>none
  | _,_=>none
 | .builtin .clear=>match c.args.toList,c.argTypes.toList with
  | [x],[t]=>match P.underlying t with
   | some (.slice e)=>match zaS P e,zcz P e,zbM ro x with
    | some sz,some z,some x=>if z.cells.length=sz then some (.clearR sz z,[x]) else none
    | _,_,_=>none
   | _=>none
  | _,_=>none
 | .builtin .delete=>match c.args.toList,c.argTypes.toList with
  | [m,k],[t,_]=>match P.underlying t with
   | some (.map kt _)=>match zaY P kt,zbn ro [m,k] with
    | some (ag,ls),some l=>some (.mdel ag ls,l)
    | _,_=>none
   | _=>none
  | _,_=>none
 | .builtin .max=>match c.args.toList with
  | [x,y]=>(zbn ro [x,y]).map fun l=>(.minmax true,l)
  | _=>none
 | .builtin .min=>match c.args.toList with
  | [x,y]=>(zbn ro [x,y]).map fun l=>(.minmax false,l)
  | _=>none
 | _=>none
def cOp (P:Program) (ro:Nat) (hp:List Nat) (o:Oper):Option (Prim × List Src) :=
 let heap:Bool:=match o.dst with | some d=>hp.contains d | none=>false
 match o.op with
 | .move x | .assign x=>(zbM ro x).map fun x=>(if zhO hp 8388608 o.dst then .freeze else .id,[x])
 | .pick c a b=>(zbn ro [c,a,b]).map fun l=>(.pick,l)
 | .alloc t=>(zcz P t).map fun z=>(if heap then .allocH t z.cells else .allocL z.cells,[])
 | .box t x=>(zbM ro x).map fun x=>(if zhO hp 4194304 o.dst then .boxI else if heap then .boxH t else .boxL,[x])
 | .build t ps=>match P.underlying t,zcz P t,zbn ro (ps.toList.map (·.2)) with
  | some (.struct fs),some z,some l =>
   (((ps.toList.map (·.1)).mapM fun i=>(fs[i]?).bind fun f=>(zaS P f.type).map fun n=>(f.offset,n)):Option (List (Nat × Nat))).bind fun pl =>
     if (fs.toList.all fun f=>(zaS P f.type).isSome) then some (.build z.cells pl,l) else none
  | some (.array n e),some z,some l=>(zaS P e).map fun k=>(.build z.cells (ps.toList.map fun p=>(p.1 * k,k)),l)
  | _,_,_=>none
 | .buildSlice t len ps=>match P.underlying t,zbn ro (ps.toList.map (·.2)) with
  | some (.slice e),some l=>match zaS P e,zcz P e with
   | some sz,some z=>if len * sz≤2 ^ 24∧z.cells.length=sz∧0<sz then some (if heap then .buildR e sz len z (ps.toList.map (·.1)) else .buildSl sz len z (ps.toList.map (·.1)),l) else none
   | _,_=>none
  | _,_=>none
 | .makeSlice t x y=>match P.underlying t,zbM ro x,zbM ro y with
  | some (.slice e),some x,some y=>match zaS P e,zfM P e,zcz P e with
   | some sz,some by_,some z=>some (.makeR e sz by_ z,[x,y])
   | _,_,_=>none
  | _,_,_=>none
 | .load t x=>match zaS P t,zg9 P t,zbM ro x with
  | some n,some ag,some x=>some (if zhO hp 8388608 o.dst&&(n == 1&&!ag) then .loadF else .load n ag,[x])
  | _,_,_=>none
 | .store t a x=>match zaS P t,zbn ro [a,x] with
  | some n,some l=>some (.store n,l)
  | _,_=>none
 | .fieldAddr t x i=>match P.underlying t,zbM ro x with
  | some (.struct fs),some x=>(fs[i]?).bind fun f=>match zaS P f.type with
   | some n=>if n=0 then none else some (.faddr f.offset,[x])
   | none=>none
  | _,_=>none
 | .field t x i=>match P.underlying t,zbM ro x with
  | some (.struct fs),some x=>(fs[i]?).bind fun f=>match zaS P f.type,zg9 P f.type with
   | some n,some ag=>some (.field f.offset n ag,[x])
   | _,_=>none
  | _,_=>none
 | .indexAddr t x i=>match P.underlying t,zbn ro [x,i] with
  | some (.slice e),some l=>(zaS P e).map fun n=>(.ixaddr n,l)
  | some (.array n e),some l=>(zaS P e).map fun k=>(.ixaddrA n k,l)
  | _,_=>none
 | .index t x i=>match P.underlying t,zbn ro [x,i] with
  | some .string,some l=>some (.ixstr,l)
  | some (.array n e),some l=>match zaS P e,zg9 P e with
   | some k,some ag=>some (.ixarr n k ag,l)
   | _,_=>none
  | _,_=>none
 | .slice t x lo hi mx=>match P.underlying t,zbM ro x,zps ro lo,zps ro hi,zps ro mx with
  | some .string,some x,some lo',some hi',some []=>if mx.isNone then some (.slstr lo.isSome hi.isSome,x::(lo'++hi')) else none
  | some (.slice e),some x,some lo',some hi',some mx'=>(zaS P e).map fun n=>(.slsl n lo.isSome hi.isSome mx.isSome,x::(lo'++hi'++mx'))
  | some (.array n el),some x,some [],some [],some []=>(zaS P el).map fun sz=>(.slarr n sz,[x])
  | _,_,_,_,_=>none
 | .nilCheck x=>(zbM ro x).map fun x=>(.nilchk,[x])
 | .binOp op t x y _=>match zbn ro [x,y] with
  | some l=>match op with
   | .eql | .neq=>match P.underlying t with
    | some (.int _) | some .string=>some (.bin op,l)
    | some .bool=>some (.eq1 (op == .neq) .bool,l)
    | some (.pointer _)=>some (.eq1 (op == .neq) .ptr,l)
    | some (.slice _)=>some (.eq1 (op == .neq) .slice,l)
    | some (.map _ _)=>some (.eq1 (op == .neq) .map,l)
    | some (.func _ _ _)=>some (.eq1 (op == .neq) .func,l)
    | some (.interface _)=>if zcN x || zcN y then some (.eq1 (op == .neq) .iface,l) else none
    | some (.struct _) | some (.array _ _)=>if P.eqGuardType P.depth t then none else match zcT P 50 t,zaS P t with
     | some ls,some n=>if ls.length=n then some (.eqv (op == .neq) ls,l) else none
     | _,_=>none
    | _=>none
   | _=>some (.bin op,l)
  | none=>none
 | .unOp op _ x=>(zbM ro x).map fun x=>(.un op,[x])
 | .convert src dst x=>match P.underlying src,P.underlying dst,zbM ro x with
  | some _,some (.int k),some x=>some (.conv k,[x])
  | some .string,some .string,some x=>some (.strid,[x])
  | some .string,some (.slice e),some x=>match P.underlying e,zaS P e with
   | some (.int .u8),some 1=>some (.s2b,[x])
   | _,_=>none
  | some (.slice e),some .string,some x=>match P.underlying e with
   | some (.int .u8)=>some (if heap then .b2r else .b2s,[x])
   | _=>none
  | _,_,_=>none
 | .makeFunc (.func f) first captured=>(zbn ro (first.toList++captured.toList)).map fun l=>(.mkfunc f first.size,l)
 | .extract x i=>(zbM ro x).map fun x=>(.extract i,[x])
 | .makeMap t none=>match P.underlying t with
  | some (.map k _)=>(zaY P k).map fun (ag,ls)=>(.mkmap ag ls,[])
  | _=>none
 | .lookup t x i ok=>match P.underlying t with
  | some (.map k el)=>match zaY P k,zcz P el,zbn ro [x,i] with
   | some (ag,ls),some z,some l=>some (.mlook ag ls z ok,l)
   | _,_,_=>none
  | _=>none
 | .mapUpdate t m k x=>match P.underlying t with
  | some (.map kt _)=>match zaY P kt,zbn ro [m,k,x] with
   | some (ag,ls),some l=>some (.mset ag ls,l)
   | _,_=>none
  | _=>none
 | .range t x=>match P.underlying t with
  | some .string=>(zbM ro x).map fun x=>(.range,[x])
  | _=>none
 | .next x true=>(zbM ro x).map fun x=>(.next,[x])
 | .call c=>zlf P ro (zhO hp 16777216 o.dst) c
 | _=>none
def zAK (P:Program) (ro:Nat) (hp:List Nat) (o:Oper):Prim × List Src:=(cOp P ro hp o).getD (.trap,[])
def zkz (P:Program) (ro:Nat) (hp:List Nat) (nt:Nat) (ops:List Oper) (o:Oper):Option IOp :=
 match zAK P ro hp o with
 | (p,srcs) =>
  if (match o.dst with | some d=>decide (d<nt) | none=>true) then
   match o.guard with
   | none=>some ⟨o.dst,none,p,srcs,none⟩
   | some (j,want)=>match (ops[j]?).bind (·.dst) with
    | some d=>if d<nt then some ⟨o.dst,some (d,want),p,srcs,none⟩ else none
    | none=>none
  else none
def zDv (P:Program) (ro:Nat) (hp:List Nat) (nt:Nat) (ops:List Oper):Option (List IOp):=ops.mapM (zkz P ro hp nt ops)
def znZ (P:Program) (hp:List Nat) (ops:List Oper):Nat→Operand→Option AK
 | 0,_=>none
 | n+1,.tmp t=>match ops.find? (fun o=>o.dst == some t) with
  | some o=>match o.op with
   | .fieldAddr _ x _=>znZ P hp ops n x
   | .indexAddr ty x _=>match P.underlying ty with
    | some (.slice _)=>if hp.contains (t+3145728) then some .heap else some .el
    | _=>znZ P hp ops n x
   | .nilCheck x | .move x | .assign x=>znZ P hp ops n x
   | .alloc _ | .box _ _=>if hp.contains (t+4194304) then some .el else if hp.contains t then some .heap else some (.loc t)
   | _=>some .heap
  | none=>if hp.contains (t+4194304) then some .el else if hp.contains (t+1048576) then some (.loc t) else some .heap
 | _+1,_=>some .heap
def cAk (P:Program) (hp:List Nat) (ops:List Oper) (o:Oper):Option AK :=
 match o.op with
 | .load _ x | .store _ x _=>znZ P hp ops 8 x
 | _=>none
def zbv (ops:List Oper) (i:Nat):List Nat :=
 match ops[i]? with
 | some o=>(o.after.toList.filter (Region.binds .any)).map (·.on)
 | none=>[]
def zx0 (pre:Nat→List Nat) (n:Nat) (ord:List Nat):List (List Nat) :=
 ord.foldl (fun acc i=>acc.set i ((pre i++(pre i).flatMap fun y=>acc.getD y []).eraseDups)) (List.replicate n [])
def zmK (hp:List Nat):Prim→Prim
 | .call f=>if hp.contains (f+2097152) then .callP f else .call f
 | .append ty sz by_=>if hp.contains 33554432 then .appendT ty sz by_ else .append ty sz by_
 | p=>p
def zdU (P:Program) (hp:List Nat) (all:List Oper):List Oper→List IOp→List IOp
 | o::ops,io::ios=>{ io with ak:=cAk P hp all o,prim:=zmK hp io.prim }::zdU P hp all ops ios
 | _,_=>[]
def zmL (ops:List Oper) (ios:List IOp) (prec:List (List Nat)) (ord:List Nat):Bool :=
 zpr (zbv ops) (fun i=>prec.getD i []) (fun i=>(ios[i]?).bind zdi) [] ord&&ord.length == ops.length&&(List.range ops.length).all (fun i=>ord.contains i)
def ziR:Nat→List IOp→List IOp
 | _,[]=>[]
 | i,io::r=>{ io with prim:=io.prim.rank i }::ziR (i+1) r
def zjk (ios:List IOp):Nat:=if ios.any (fun io=>io.prim.isBox) then ios.length else 0
def zsA (P:Program) (ro:Nat) (hp:List Nat) (nt:Nat) (ops:List Oper):Option (List IOp × Nat) :=
 (zDv P ro hp nt ops).bind fun ios0 =>
   let ios:=ziR 0 (zdU P hp ops ops ios0)
   let ord:=Region.linearise .any ops.toArray 0
   if zmL ops ios (zx0 (zbv ops) ops.length ord) ord then (ord.mapM (fun i=>ios[i]?)).map fun l=>(l,zjk ios0) else none
def zmM (ops:List Oper) (nt n m k m' x y z u w d0 d1 d2 d3:Nat) (sx:Src):Bool :=
 (ops.drop n).all (fun o=>o.guard.isNone)&&(x == d0&&y == d0&&z == d3&&u == d2&&w == d1&&m' == m)&&[d0,d1,d2,d3].all (fun d=>decide (d<nt)&&(d != m&&d != k)) &&
 (d0 != d1&&d0 != d2&&d0 != d3&&d1 != d2&&d1 != d3&&d2 != d3)&&(match sx with | .slot s=>[d0,d1,d2,d3].all (· != s) | .val _=>true) &&
 ((List.range n).all (zbv ops n).contains&&(zbv ops n).all (fun i=>decide (i<n))) &&
 ((zbv ops (n+1)).contains n&&(zbv ops (n+1)).all (fun i=>decide (i<n+1))) &&
 ((zbv ops (n+2)).contains n&&(zbv ops (n+2)).contains (n+1)&&(zbv ops (n+2)).all (fun i=>decide (i<n+2))) &&
 ((zbv ops (n+3)).contains n&&(zbv ops (n+3)).all (fun i=>decide (i<n+1))) &&
 ((zbv ops (n+4)).contains n&&(zbv ops (n+4)).contains (n+2)&&(zbv ops (n+4)).contains (n+3)&&(zbv ops (n+4)).all (fun i=>decide (i<n+4)))
def zdj (P:Program) (ro nt n:Nat) (ops:List Oper):Option (List IOp) :=
 match ops.drop n with
 | [oa,ob,oc,od,oe] =>
  match oa.op,ob.op,oc.op,od.op,oe.op with
  | .mapEntry t (.tmp m) (.tmp k),.extract (.tmp x) 0,.call c,.extract (.tmp y) 1,.entryStore _ (.tmp m') (.tmp z) (.tmp u) =>
   match oa.dst,ob.dst,oc.dst,od.dst,oe.dst with
   | some d0,some d1,some d2,some d3,none =>
    match P.underlying t,zlf P ro false c with
    | some (.map kt el),some (.append ty sz by_,[.slot w,sx]) =>
     match zaY P kt,zcz P el with
     | some (ag,ls),some zv =>
      if zmM ops nt n m k m' x y z u w d0 d1 d2 d3 sx then
       some [⟨some d1,none,.mlook ag ls zv false,[.slot m,.slot k],none⟩,⟨none,none,.mset ag ls,[.slot m,.slot k,.slot d1],none⟩,⟨some d2,none,.appendT ty sz by_,[.slot d1,sx],none⟩,
        ⟨none,none,.mset ag ls,[.slot m,.slot k,.slot d2],none⟩,⟨some d0,none,.id,[.val .junk],none⟩,⟨some d3,none,.id,[.val .junk],none⟩]
      else none
     | _,_=>none
    | _,_=>none
   | _,_,_,_,_=>none
  | _,_,_,_,_=>none
 | _=>none
def zw9 (P:Program) (ro:Nat) (hp:List Nat) (nt:Nat) (ops:List Oper):Option (List IOp × Nat) :=
 if 5≤ops.length then (zdj P ro nt (ops.length - 5) ops).bind fun suf=>(zsA P ro hp nt (ops.take (ops.length - 5))).map fun r=>(r.1++suf,r.2) else none
def zsB (P:Program) (ro:Nat) (hp:List Nat) (nt:Nat) (ops:List Oper):Option (List IOp × Nat) :=
 match zw9 P ro hp nt ops with
 | some r=>some r
 | none=>zsA P ro hp nt ops
def drawn (r:List IOp × Nat):ICode:=if r.2=0 then .region r.1 else .seq (.region r.1) (.bump r.2)
def zd0 (P:Program) (ro:Nat) (hp:List Nat) (nt:Nat):Code→Option ICode
 | .skip=>some .skip
 | .label _=>some .skip
 | .region _ ops d=>if d then (match zsB P ro hp nt ops.toList with | some r=>some (drawn r) | none=>some .trap) else (zDv P ro hp nt ops.toList).map .region
 | .seq a b=>match zd0 P ro hp nt a,zd0 P ro hp nt b with
  | some a,some b=>some (.seq a b)
  | _,_=>none
 | .cond c a b=>match zbM ro c,zd0 P ro hp nt a,zd0 P ro hp nt b with
  | some c,some a,some b=>some (.cond c a b)
  | _,_,_=>none
 | .block id a=>(zd0 P ro hp nt a).map (.block id)
 | .loop a=>(zd0 P ro hp nt a).map .loop
 | .exit id=>some (.exit id)
 | .ret=>some .ret
 | .refuse _=>some .trap
 | _=>none
def zxa (P:Program):ResultVar→Option IRes
 | .tmp t=>some (.slot t)
 | .cell t ty=>match zaS P ty,zg9 P ty with
  | some n,some ag=>some (.cell t n ag)
  | _,_=>none
def zbi (P:Program) (hp:List Nat) (mode:Nat) (f:Nat):Option IFun :=
 match P.funcs[f]? with
 | none=>none
 | some fn=>match fn.body with
  | none=>none
  | some c=>if fn.name == "runtime.NumGoroutine" then none else
   match zd0 P P.globals.size hp fn.ntmps c,fn.results.toList.mapM (zxa P) with
   | some b,some r=>some ⟨fn.ntmps,r,b,P.globals.size,mode,zbd⟩
   | _,_=>none
variable [Facts]
theorem zaP (K:Ctx):∀ (n:Nat) (v:Value) (g:GV),zeY n v=some g→VR K g v:=by
 intro n
 induction n with
 | zero=>intro v g h; cases h
 | succ n ih =>
  intro v g h
  unfold zeY at h
  split at h <;> first
   | (injection h with h; subst h; constructor)
   | (cases h; done)
   | skip
  rename_i cs
  simp only [Option.map_eq_some_iff] at h
  obtain ⟨gs,hgs,rfl⟩:=h
  have hl:∀ (l:List Value) (gs:List GV),l.mapM (zeY n)=some gs→gs.length=l.length∧∀ (i:Nat) c v,gs[i]?=some c→l[i]?=some v→VR K c v:=by
   intro l
   induction l with
   | nil=>intro gs h; simp at h; subst h; simp
   | cons x l ihl =>
    intro gs h
    simp only [List.mapM_cons,Option.bind_eq_bind,Option.bind_eq_some_iff,Option.pure_def,Option.some.injEq] at h
    obtain ⟨y,hy,ys,hys,rfl⟩:=h
    obtain ⟨h1,h2⟩:=ihl ys hys
    refine ⟨by simp [h1],fun i c v hc hv=>?_⟩
    cases i with
    | zero=>simp at hc hv; subst hc hv; exact ih _ _ hy
    | succ i=>simp at hc hv; exact h2 i c v hc hv
  obtain ⟨h1,h2⟩:=hl _ _ hgs
  exact .agg (by simpa using h1) (fun i c v hc hv=>h2 i c v hc (by simpa using hv))
section
variable {P:Program} {ro:Nat} {K:Ctx} {H:GH} {lam:Nat→Option Nat} {nt:Nat} {e:Env} {a:Act}
theorem zai {g:GV} (h:g.ok=true) (n:Nat):¬ zdE g n:=by
 cases g <;> simp [GV.ok] at h <;> simp [zdE]
def zmN (g:GV):Prop:=∀ n,¬ zdE g n
theorem zaa (hr:HR ro K H) (fr:FR K lam nt e a) {x:Operand} {s:Src} (h:zbM ro x=some s):SR K lam (zac e s) (a.eval x)∧zmN (zac e s):=by
 cases x with
 | tmp t =>
  simp only [zbM,Option.some.injEq] at h
  subst h
  have hs:=fr.slot t
  simp only [zac,Act.eval]
  cases hg:zag e.s t <;> rw [hg] at hs <;> simp only [SR] at hs <;> first
   | exact ⟨SR.of hs,zai hs.ok⟩
   | (obtain ⟨b,vs,elem,h1,h2,_⟩:=hs; exact ⟨⟨b,h1,h2⟩,fun n hn=>hn⟩)
   | (obtain ⟨b,h1,h2,_⟩:=hs; exact ⟨⟨b,h1,h2⟩,fun n hn=>hn⟩)
   | (obtain ⟨b,h1,h2⟩:=hs; exact ⟨⟨b,h1,h2⟩,fun n hn=>hn⟩)
   | exact ⟨trivial,fun n hn=>hn⟩
 | const v =>
  simp only [zbM,Option.map_eq_some_iff] at h
  obtain ⟨g,hg,rfl⟩:=h
  have:=zaP K _ _ _ hg
  exact ⟨SR.of this,zai this.ok⟩
 | global g =>
  simp only [zbM] at h
  split at h
  ·rename_i hlt
   injection h with h; subst h
   have:VR K (.ptr g 0) (.pointer (some ⟨g,0,none⟩)):=.ptr (Nat.lt_of_lt_of_le hlt hr.roN) (fun c hc=>⟨hr.glob g c hlt hc,rfl⟩)
   exact ⟨SR.of this,zai this.ok⟩
  ·cases h
 | func f =>
  simp only [zbM,Option.some.injEq] at h
  subst h
  have:VR K (.func f [] []) (.func (.func f) #[] #[]):=.func rfl rfl (by simp) (by simp)
  exact ⟨SR.of this,zai this.ok⟩
theorem zmO {b:Bool} {v:Value} : SR K lam (.bool b) v↔v=.bool b:=⟨fun h=>by cases h; rfl,fun h=>h ▸ .bool b⟩
theorem zgO {k:IntKind} {n:Int} {v:Value} : SR K lam (.int k n) v↔v=.int k n:=⟨fun h=>by cases h; rfl,fun h=>h ▸ .int k n⟩
theorem zfO {s:ByteArray} {v:Value} : SR K lam (.str s) v↔v=.string s:=⟨fun h=>by cases h; rfl,fun h=>h ▸ .str s⟩
theorem zeA {v:Value} : SR K lam .nilsl v↔v=.slice none 0 0:=⟨fun h=>by cases h; rfl,fun h=>h ▸ .nilsl⟩
def zjl:GV→Value
 | .bool b=>.bool b
 | .int k n=>.int k n
 | .str s=>.string s
 | _=>undef
theorem zjm {op:BinOp} {k:IntKind} {x y:Int} {g:GV} (h:zjf op k x y=some g) (t:TypeId) (w:World) :
 (binOp op t (.int k x) (.int k y)).run P w=.ok (zjl g) w∧VR K g (zjl g):=by
 cases op <;> simp only [zjf] at h
 case quo | rem =>
  by_cases hy:y=0
  ·rw [if_pos hy] at h; cases h
  ·rw [if_neg hy] at h
   injection h with h; subst h
   exact ⟨by simp [binOp,Op.intDiv,hy,zjl],.int _ _⟩
 case add | sub | mul=>injection h with h; subst h; exact ⟨by simp [binOp,Op.intArith,zjl],.int _ _⟩
 case and | or | xor | andNot=>injection h with h; subst h; exact ⟨by simp [binOp,Op.intBits,zjl],.int _ _⟩
 case eql | neq | lss | leq | gtr | geq=>injection h with h; subst h; exact ⟨by simp [binOp,Op.intCmp,zjl],.bool _⟩
 case shl | shr=>cases h
theorem zgP {op:BinOp} {k k':IntKind} {x y:Int} {g:GV} (h:zhL op k x y=some g) (t:TypeId) (w:World) :
 (binOp op t (.int k x) (.int k' y)).run P w=.ok (zjl g) w∧VR K g (zjl g):=by
 unfold zhL at h
 by_cases hy:y<0
 ·rw [if_pos hy] at h; cases h
 ·rw [if_neg hy] at h
  cases op <;> simp only at h <;> first | cases h; done | skip
  all_goals
   injection h with h; subst h
   exact ⟨by simp [binOp,Op.shift,hy,zjl],.int _ _⟩
theorem zpt {op:BinOp} {x y:ByteArray} {g:GV} (h:zg7 op x y=some g) (t:TypeId) (w:World) :
 (binOp op t (.string x) (.string y)).run P w=.ok (zjl g) w∧VR K g (zjl g):=by
 cases op <;> simp only [zg7] at h
 case add =>
  by_cases hl:x.size+y.size≤maxLen
  ·rw [if_pos hl] at h
   injection h with h; subst h
   refine ⟨?_,.str _⟩
   have:¬ ((x.size+y.size:Nat):Int) > IntKind.i64.max:=by
    simp only [maxLen] at hl
    simp only [IntKind.max,IntKind.signed,IntKind.bits]
    simp; omega
   simp only [binOp,Op.stringOp,if_neg this]; rfl
  ·rw [if_neg hl] at h; cases h
 case eql | neq | lss | leq | gtr | geq=>injection h with h; subst h; exact ⟨by simp [binOp,Op.stringOp,zjl],.bool _⟩
 all_goals cases h
theorem zpu {op:BinOp} {x y:GV} {g:GV} {u v:Value} (h:zsv op x y=some g) (hx:SR K lam x u) (hy:SR K lam y v) (t:TypeId) (w:World) :
 (binOp op t u v).run P w=.ok (zjl g) w∧VR K g (zjl g):=by
 unfold zsv at h
 split at h
 ·rw [zgO] at hx hy; subst hx hy
  split at h
  ·exact zgP h t w
  ·exact zgP h t w
  ·split at h
   ·rename_i e1; subst e1; exact zjm h t w
   ·cases h
 ·rw [zfO] at hx hy; subst hx hy; exact zpt h t w
 ·cases h
theorem zsC {op:UnOp} {x:GV} {g:GV} {u:Value} (h:gUn op x=some g) (hx:SR K lam x u) (w:World) :
 (Op.unary op u).run P w=.ok (zjl g) w∧VR K g (zjl g):=by
 unfold gUn at h
 split at h
 ·rw [zgO] at hx; subst hx
  split at h
  ·injection h with h; subst h; exact ⟨by simp [Op.unary,Op.intArith,zjl],.int _ _⟩
  ·rename_i k n
   have h1:=zjm (P:=P) (K:=K) h 0 w
   simp only [binOp,ne_eq,not_true_eq_false,if_false] at h1
   refine ⟨?_,h1.2⟩
   simp only [Op.unary]
   exact h1.1
  ·cases h
 ·rw [zmO] at hx; subst hx
  split at h
  ·injection h with h; subst h; exact ⟨by simp [Op.unary,zjl],.bool _⟩
  ·cases h
 ·cases h
end
section
variable {P:Program} {ro:Nat} {K:Ctx} {H:GH} {lam:Nat→Option Nat} {nt:Nat} {e:Env} {a:Act}
theorem zbs {t:TypeId} {ag:Bool} (h:zg9 P t=some ag) (w:World):(isAgg t).run P w=.ok ag w:=by
 unfold zg9 at h
 cases hu:P.underlying t with
 | none=>rw [hu] at h; cases h
 | some d =>
  rw [hu] at h
  cases d <;> simp only [Option.some.injEq] at h <;> subst h <;> simp [isAgg,run_underlying hu]
theorem zcA {t:TypeId} {i:TypeInfo} (h:P.info? t=some i) (w:World):(typeInfo t).run P w=.ok i w:=by
 simp [typeInfo,h]
theorem zax {t:TypeId} {n:Nat} (h:zaS P t=some n) (w:World):(sizeOf t).run P w=.ok n w:=by
 simp only [zaS,Option.map_eq_some_iff] at h
 obtain ⟨i,hi,rfl⟩:=h
 simp [sizeOf,zcA hi]
def CR (K:Ctx) (cs:List GV) (vs:Array Value):Prop :=
 cs.length=vs.size∧∀ (i:Nat) c v,cs[i]?=some c→vs[i]?=some v→VR K c v
theorem CR.agg {cs:List GV} {v:Value} (h:SR K lam (.agg cs) v):∃ vs,v=.agg vs∧CR K cs vs:=by
 cases h with
 | agg hl h=>exact ⟨_,rfl,hl,h⟩
theorem CR.get {cs:List GV} {vs:Array Value} (h:CR K cs vs) {i:Nat} {c:GV} (hc:cs[i]?=some c):∃ v,vs[i]?=some v∧VR K c v:=by
 have hi:i<cs.length:=(List.getElem?_eq_some_iff.1 hc).1
 have hi':i<vs.size:=by rw [← h.1]; exact hi
 exact ⟨vs[i],Array.getElem?_eq_getElem hi',h.2 i c _ hc (Array.getElem?_eq_getElem hi')⟩
theorem CR.extract {cs:List GV} {vs:Array Value} (h:CR K cs vs) (off sz:Nat) (hle:off+sz≤cs.length):CR K ((cs.drop off).take sz) (vs.extract off (off+sz)):=by
 have:=h.1
 refine ⟨by simp; omega,fun i c v hc hv=>?_⟩
 simp only [List.getElem?_take,List.getElem?_drop] at hc
 split at hc
 ·rename_i hi
  rw [Array.getElem?_extract] at hv
  split at hv
  ·exact h.2 _ c v hc hv
  ·cases hv
 ·cases hc
theorem CR.extract' {cs:List GV} {vs:Array Value} (h:CR K cs vs) (off sz:Nat) (hle:off+sz≤cs.length∨sz=0):CR K ((cs.drop off).take sz) (vs.extract off (off+sz)):=by
 rcases hle with h1 | h1
 ·exact h.extract off sz h1
 ·subst h1
  refine ⟨?_,fun i c v hc=>by simp at hc⟩
  simp only [List.take_zero,List.length_nil,Array.size_extract]
  omega
theorem zgQ {t:TypeId} {cs:List GV} {vs:Array Value} {off sz:Nat} {ag:Bool} {g:GV} (h:zbP cs off sz ag=some g) (hc:CR K cs vs)
 (ha:zg9 P t=some ag) (hs:zaS P t=some sz) (w:World):∃ v,(part t vs off).run P w=.ok v w∧VR K g v:=by
 unfold zbP at h
 cases ag
 ·simp only [Bool.false_eq_true,if_false] at h
  obtain ⟨v,hv,hr⟩:=hc.get h
  exact ⟨v,by simp [part,zbs ha,hv],hr⟩
 ·simp only [if_true] at h
  split at h
  ·rename_i hle
   injection h with h; subst h
   have:=hc.extract off sz hle
   exact ⟨.agg (vs.extract off (off+sz)),by simp [part,zbs ha,zax hs],.agg this.1 this.2⟩
  ·cases h
theorem zeg {ls:List Leaf} {xs ys:List GV} {b:Bool} (h:zaT ls xs ys=some b):xs.length=ls.length∧ys.length=ls.length:=by
 induction ls generalizing xs ys b with
 | nil=>cases xs <;> cases ys <;> simp [zaT] at h ⊢
 | cons l ls ih =>
  cases xs <;> cases ys <;> simp only [zaT] at h <;> try (cases h; done)
  split at h
  ·rename_i h2
   obtain ⟨h3,h4⟩:=ih h2
   simp [h3,h4]
  ·cases h
theorem zeh {l1 l2:List Leaf} {xs ys:List GV} {b:Bool} (h:zaT (l1++l2) xs ys=some b) :
 ∃ b1 b2,zaT l1 (xs.take l1.length) (ys.take l1.length)=some b1∧zaT l2 (xs.drop l1.length) (ys.drop l1.length)=some b2∧b=(b1&&b2):=by
 induction l1 generalizing xs ys b with
 | nil=>exact ⟨true,b,by simp [zaT],by simpa using h,by simp⟩
 | cons l l1 ih =>
  cases xs <;> cases ys <;> simp only [List.cons_append,zaT] at h <;> try (cases h; done)
  split at h
  ·rename_i a1 a2 h1 h2
   obtain ⟨b1,b2,h3,h4,h5⟩:=ih h2
   injection h with h
   refine ⟨a1&&b1,b2,by simp [zaT,h1,h3],by simpa using h4,by rw [← h,h5,Bool.and_assoc]⟩
  ·cases h
theorem zhP {d:Nat} (rec:TypeId→Option (List Leaf)) (w:World)
 (hrec:∀ t ls n ag,rec t=some ls→zaS P t=some n→zg9 P t=some ag→ls.length=n→(ag=true∨n=1)→∀ (cs ds:List GV) (xs ys:Array Value) (off:Nat) b,
   CR K cs xs→CR K ds ys→zaT ls ((cs.drop off).take n) ((ds.drop off).take n)=some b →
   ∃ u v,(part t xs off).run P w=.ok u w∧(part t ys off).run P w=.ok v w∧(Op.equalIn d t u v).run P w=.ok b w) :
 ∀ (fs:List Field) (off:Nat) (ls:List Leaf) (cs ds:List GV) (xs ys:Array Value) (b:Bool),zfN P rec fs off=some ls→CR K cs xs→CR K ds ys →
  zaT ls (cs.drop off) (ds.drop off)=some b→(Op.eqFields d xs ys fs).run P w=.ok b w:=by
 intro fs
 induction fs with
 | nil =>
  intro off ls cs ds xs ys b h _ _ hl
  simp only [zfN,Option.some.injEq] at h
  subst h
  have:b=true:=by
   cases hc:cs.drop off <;> cases hd:ds.drop off <;> rw [hc,hd] at hl <;> simp [zaT] at hl
   exact hl
  subst this
  simp [Op.eqFields]
 | cons f fs ih =>
  intro off ls cs ds xs ys b h hx hy hl
  simp only [zfN] at h
  split at h
  ·cases h
  rename_i hn
  have hn1:f.name ≠ "_" := fun e=>hn (.inl e)
  have hn2:f.offset=off:=by
   rcases Nat.decEq f.offset off with h' | h'
   ·exact absurd (.inr h') hn
   ·exact h'
  split at h
  ·rename_i l n ag h1 h2 h3
   split at h
   ·rename_i h4
    simp only [Option.map_eq_some_iff] at h
    obtain ⟨l2,h5,rfl⟩:=h
    obtain ⟨b1,b2,h6,h7,rfl⟩:=zeh hl
    rw [h4.1] at h6 h7
    obtain ⟨u,v,hu,hv,hq⟩:=hrec f.type l n ag h1 h2 h3 h4.1 h4.2 cs ds xs ys off b1 hx hy h6
    simp only [List.drop_drop] at h7
    have h8:=ih (off+n) l2 cs ds xs ys b2 h5 hx hy h7
    simp only [Op.eqFields,if_pos hn1,hn2,Sem.run_bind,hu,hv,hq,Result.andThen_ok]
    cases b1
    ·simp
    ·simpa using h8
   ·cases h
  ·cases h
theorem zlg (w:World):∀ (dd k:Nat) (t:TypeId) (ls:List Leaf) (n:Nat) (ag:Bool),zcT P dd t=some ls→zaS P t=some n→zg9 P t=some ag→ls.length=n→(ag=true∨n=1) →
 ∀ (cs ds:List GV) (xs ys:Array Value) (off:Nat) b,CR K cs xs→CR K ds ys→zaT ls ((cs.drop off).take n) ((ds.drop off).take n)=some b →
  ∃ u v,(part t xs off).run P w=.ok u w∧(part t ys off).run P w=.ok v w∧(Op.equalIn (dd+k) t u v).run P w=.ok b w:=by
 intro dd
 induction dd with
 | zero=>intro k t ls n ag h; cases h
 | succ dd ih =>
  intro k t ls n ag h hsz hag hln hagn cs ds xs ys off b hx hy hl
  have hlen:=zeg hl
  rw [hln] at hlen
  have hcl:off+n≤cs.length∨n=0:=by have:=hlen.1; simp at this; omega
  have hdl:off+n≤ds.length∨n=0:=by have:=hlen.2; simp at this; omega
  have e1:dd+1+k=(dd+k)+1:=by omega
  rw [e1]
  -- a single cell
  have one:∀ lf:Leaf,ls=[lf]→ag=false→∃ c d u v,cs[off]?=some c∧ds[off]?=some d∧zba lf c d=some b∧xs[off]?=some u∧ys[off]?=some v∧VR K c u∧VR K d v ∧
   (part t xs off).run P w=.ok u w∧(part t ys off).run P w=.ok v w:=by
   intro lf hlf hagf
   subst hlf
   have hn1:n=1:=by simpa using hln.symm
   subst hn1
   have h1:off<cs.length:=by omega
   have h2:off<ds.length:=by omega
   have hcd:(cs.drop off).take 1=[cs[off]]:=by rw [List.drop_eq_getElem_cons h1]; rfl
   have hdd:(ds.drop off).take 1=[ds[off]]:=by rw [List.drop_eq_getElem_cons h2]; rfl
   rw [hcd,hdd] at hl
   simp only [zaT] at hl
   split at hl
   ·rename_i a1 a2 h3 h4
    simp only [Option.some.injEq] at h4 hl
    subst h4
    simp only [Bool.and_true] at hl
    subst hl
    have hc1:cs[off]?=some cs[off]:=List.getElem?_eq_getElem h1
    have hd1:ds[off]?=some ds[off]:=List.getElem?_eq_getElem h2
    obtain ⟨u,hu,hru⟩:=hx.get hc1
    obtain ⟨v,hv,hrv⟩:=hy.get hd1
    subst hagf
    exact ⟨_,_,u,v,hc1,hd1,h3,hu,hv,hru,hrv,by simp [part,zbs hag,hu],by simp [part,zbs hag,hv]⟩
   ·cases hl
  unfold zcT at h
  split at h
  ·rename_i hu
   injection h with h
   obtain ⟨c,d,u,v,_,_,hq,_,_,hru,hrv,hp1,hp2⟩:=one .bool h.symm (by rw [zg9,hu] at hag; simpa using hag.symm)
   refine ⟨u,v,hp1,hp2, ?_⟩
   cases c <;> cases d <;> simp only [zba] at hq <;> try (cases hq; done)
   injection hq with hq; subst hq
   cases hru; cases hrv
   simp [Op.equalIn,run_underlying hu]
  ·rename_i kk hu
   injection h with h
   obtain ⟨c,d,u,v,_,_,hq,_,_,hru,hrv,hp1,hp2⟩:=one (.int kk) h.symm (by rw [zg9,hu] at hag; simpa using hag.symm)
   refine ⟨u,v,hp1,hp2, ?_⟩
   cases c <;> cases d <;> simp only [zba] at hq <;> try (cases hq; done)
   split at hq
   ·rename_i ek; subst ek
    injection hq with hq; subst hq
    cases hru; cases hrv
    simp [Op.equalIn,run_underlying hu]
   ·cases hq
  ·rename_i hu
   injection h with h
   obtain ⟨c,d,u,v,_,_,hq,_,_,hru,hrv,hp1,hp2⟩:=one .str h.symm (by rw [zg9,hu] at hag; simpa using hag.symm)
   refine ⟨u,v,hp1,hp2, ?_⟩
   cases c <;> cases d <;> simp only [zba] at hq <;> try (cases hq; done)
   injection hq with hq; subst hq
   cases hru; cases hrv
   simp [Op.equalIn,run_underlying hu]
  ·rename_i fs hu
   have hagt:ag=true:=by rw [zg9,hu] at hag; simpa using hag.symm
   subst hagt
   split at h
   ·cases h
   rename_i hst
   simp only [Bool.not_eq_true] at hst
   refine ⟨.agg (xs.extract off (off+n)),.agg (ys.extract off (off+n)),by simp [part,zbs hag,zax hsz],by simp [part,zbs hag,zax hsz], ?_⟩
   have hf:P.fieldsOf t=fs:=by simp [Program.fieldsOf,hu]
   rw [run_equalIn_struct w (dd+k) t _ _ (by rw [hf]; exact hu) hst,hf]
   have hx':=hx.extract' off n hcl
   have hy':=hy.extract' off n hdl
   exact zhP (zcT P dd) w (fun t ls n ag a1 a2 a3 a4 a5=>ih k t ls n ag a1 a2 a3 a4 a5) fs.toList 0 ls _ _ _ _ b h hx' hy' (by simpa using hl)
  ·rename_i m el hu
   have hagt:ag=true:=by rw [zg9,hu] at hag; simpa using hag.symm
   subst hagt
   split at h
   ·rename_i l kk ag' h1 h2 h3
    split at h
    ·rename_i h4
     injection h with h
     refine ⟨.agg (xs.extract off (off+n)),.agg (ys.extract off (off+n)),by simp [part,zbs hag,zax hsz],by simp [part,zbs hag,zax hsz], ?_⟩
     have hx':=hx.extract' off n hcl
     have hy':=hy.extract' off n hdl
     generalize (cs.drop off).take n=cs' at hl hx'
     generalize (ds.drop off).take n=ds' at hl hy'
     generalize xs.extract off (off+n)=xs' at hx'
     generalize ys.extract off (off+n)=ys' at hy'
     simp only [Op.equalIn,Sem.run_bind,run_underlying hu,Result.andThen_ok,zax h2]
     rw [Std.Legacy.Range.forIn_eq_forIn_range']
     have hsize:(⟨0,m,1,Nat.zero_lt_one⟩:Std.Legacy.Range).size=m:=by simp [Std.Legacy.Range.size]
     simp only [hsize]
     subst h
     have key:∀ (F:Nat→Option Bool × Unit→Sem (ForInStep (Option Bool × Unit))),(∀ i s,F i s=do
      let a ← part el xs' (i * kk)
      let b ← part el ys' (i * kk)
      let r ← Op.equalIn (dd+k) el a b
      if (!r)=true then pure (ForInStep.done (some false,())) else pure (ForInStep.yield (none,()))) →
      ∀ (G:Option Bool × Unit→Sem Bool),(∀ r,G (some r,())=pure r)→G (none,())=pure true →
      ∀ (m i:Nat) (b:Bool),zaT ((List.replicate m l).flatten) (cs'.drop (i * kk)) (ds'.drop (i * kk))=some b →
      ((forIn (m:=Sem) (List.range' i m 1) ((none:Option Bool),()) F).run P w).andThen (fun a w'=>Sem.run P (G a) w')=Result.ok b w:=by
      intro F hF G hG1 hG2 m
      induction m with
      | zero =>
       intro i b hb
       have:b=true:=by
        generalize cs'.drop (i * kk)=c1 at hb
        generalize ds'.drop (i * kk)=d1 at hb
        cases c1 <;> cases d1 <;> simp [zaT] at hb
        exact hb
       subst this
       simp [hG2]
      | succ m ihm =>
       intro i b hb
       simp only [List.replicate_succ,List.flatten_cons] at hb
       obtain ⟨b1,b2,h6,h7,rfl⟩:=zeh hb
       rw [h4.1] at h6 h7
       obtain ⟨u,v,hu1,hv1,hq⟩:=ih k el l kk ag' h1 h2 h3 h4.1 h4.2 cs' ds' xs' ys' (i * kk) b1 hx' hy' h6
       simp only [List.drop_drop] at h7
       have e2:i * kk+kk=(i+1) * kk:=by rw [Nat.add_mul,Nat.one_mul]
       rw [e2] at h7
       have h8:=ihm (i+1) b2 h7
       simp only [List.range'_succ,List.forIn_cons,hF,Sem.run_bind,hu1,hv1,hq,Result.andThen_ok]
       cases b1
       ·simp [hG1]
       ·simpa using h8
     exact key _ (fun _ _=>rfl) _ (fun _=>rfl) rfl m 0 b (by simpa using hl)
    ·cases h
   ·cases h
  ·cases h
end
section
variable {P:Program} {ro:Nat} {K:Ctx} {H:GH} {lam:Nat→Option Nat} {nt:Nat} {e:Env} {a:Act}
theorem VR.cells {g:GV} {v:Value} (h:VR K g v):CR K g.cells v.cells:=by
 cases h with
 | agg hl h=>exact ⟨hl,h⟩
 | _ =>
  refine ⟨rfl,fun i c u hc hu=>?_⟩
  simp only [GV.cells,Value.cells,List.getElem?_singleton] at hc hu
  split at hc
  ·rename_i hi
   subst hi
   injection hc with hc; subst hc
   simp at hu; subst hu
   first | exact .bool _ | exact .int _ _ | exact .str _ | exact .nilptr | exact .nilsl | exact .nilmap | exact .nilfunc | exact .niliface | (constructor <;> assumption)
  ·cases hc
theorem zcf {cs vs cs':List GV} {off:Nat} {xs us:Array Value} (h:zae cs off vs=some cs') (hc:CR K cs xs) (hv:CR K vs us) :
 off+us.size≤xs.size∧∀ ys:Array Value,ys.size=xs.size→(∀ i,ys[i]?=if off≤i∧i<off+us.size then us[i - off]? else xs[i]?)→CR K cs' ys:=by
 unfold zae at h
 split at h
 ·rename_i hle
  injection h with h; subst h
  have h1:=hc.1
  have h2:=hv.1
  refine ⟨by omega,fun ys hs hy=>⟨by simp; omega,fun i c v hcc hvv=>?_⟩⟩
  rw [hy i] at hvv
  rw [List.append_assoc,List.getElem?_append] at hcc
  split at hcc
  ·rename_i hi
   simp at hi
   rw [if_neg (by omega)] at hvv
   rw [List.getElem?_take] at hcc
   split at hcc
   ·exact hc.2 i c v hcc hvv
   ·cases hcc
  ·rename_i hi
   simp only [List.length_take] at hi hcc
   rw [List.getElem?_append] at hcc
   split at hcc
   ·rename_i hi2
    rw [if_pos (by omega)] at hvv
    have e1:i - min off cs.length=i - off:=by omega
    rw [e1] at hcc
    exact hv.2 _ c v hcc hvv
   ·rename_i hi2
    rw [if_neg (by omega)] at hvv
    rw [List.getElem?_drop] at hcc
    have e1:off+vs.length+(i - min off cs.length - vs.length)=i:=by omega
    rw [e1] at hcc
    exact hc.2 i c v hcc hvv
 ·cases h
theorem zx1 (us:List Value) (off k:Nat) (xs:Array Value) (h:off+k+us.length≤xs.size) :
 ((us.zipIdx k).foldl (fun cs (x:Value × Nat)=>cs.setIfInBounds (off+x.2) x.1) xs).size=xs.size ∧
 ∀ i,((us.zipIdx k).foldl (fun cs (x:Value × Nat)=>cs.setIfInBounds (off+x.2) x.1) xs)[i]?=if off+k≤i∧i<off+k+us.length then us[i - (off+k)]? else xs[i]?:=by
 induction us generalizing k xs with
 | nil=>refine ⟨rfl,fun i=>?_⟩; simp; intro h1 h2; omega
 | cons u us ih =>
  simp only [List.length_cons] at h
  simp only [List.zipIdx_cons,List.foldl_cons]
  obtain ⟨h1,h2⟩:=ih (k+1) (xs.setIfInBounds (off+k) u) (by simp; omega)
  refine ⟨by rw [h1]; simp,fun i=>?_⟩
  rw [h2 i]
  by_cases hi:i=off+k
  ·subst hi
   rw [if_neg (by omega),if_pos (by simp)]
   have:off+k<xs.size:=by omega
   simp [this]
  ·rw [Array.getElem?_setIfInBounds_ne (Ne.symm hi)]
   by_cases hi2:off+(k+1)≤i∧i<off+(k+1)+us.length
   ·rw [if_pos hi2,if_pos (by simp; omega)]
    have e1:i - (off+k)=(i - (off+(k+1)))+1:=by omega
    rw [e1,List.getElem?_cons_succ]
   ·rw [if_neg hi2,if_neg (by simp; omega)]
theorem zvM (us:Array Value) (off:Nat) (xs:Array Value) (h:off+us.size≤xs.size) :
 (us.zipIdx.foldl (fun cs (c,j)=>cs.setIfInBounds (off+j) c) xs).size=xs.size ∧
 ∀ i,(us.zipIdx.foldl (fun cs (c,j)=>cs.setIfInBounds (off+j) c) xs)[i]?=if off≤i∧i<off+us.size then us[i - off]? else xs[i]?:=by
 have:=zx1 us.toList off 0 xs (by simpa using h)
 rw [← Array.foldl_toList]
 simp only [Array.toList_zipIdx]
 refine ⟨this.1,fun i=>?_⟩
 have h2:=this.2 i
 simpa using h2
theorem zfb (place:Nat→Option (Nat × Nat)):∀ (zs:List GV) (l:List ((Nat × Nat) × GV)) (cs:List GV) (xs:Array Value) (m:List (Nat × Value)),za6 zs l=some cs→CR K zs xs→l.length=m.length →
 (∀ (i:Nat) pl g j v,l[i]?=some (pl,g)→m[i]?=some (j,v)→place j=some pl∧VR K g v)→∃ ys,Instr.fill place xs m=some ys∧CR K cs ys:=by
 intro zs l
 induction l generalizing zs with
 | nil =>
  intro cs xs m h hc hl _
  cases m with
  | nil=>simp only [za6,Option.some.injEq] at h; subst h; exact ⟨xs,rfl,hc⟩
  | cons _ _=>simp at hl
 | cons p l ih =>
  intro cs xs m h hc hl hp
  obtain ⟨⟨off,sz⟩,g⟩:=p
  cases m with
  | nil=>simp at hl
  | cons q m =>
   obtain ⟨j,v⟩:=q
   simp only [za6] at h
   split at h
   ·rename_i hsz
    simp only [Option.bind_eq_some_iff] at h
    obtain ⟨cs1,h1,h2⟩:=h
    obtain ⟨hpl,hv⟩:=hp 0 (off,sz) g j v rfl rfl
    have hvc:=hv.cells
    obtain ⟨h3,h4⟩:=zcf h1 hc hvc
    have h5:=zvM v.cells off xs h3
    have h6:=h4 _ h5.1 h5.2
    obtain ⟨ys,h7,h8⟩:=ih cs1 cs _ m h2 h6 (by simpa using hl) (fun i pl g j v a b=>hp (i+1) pl g j v (by simpa using a) (by simpa using b))
    refine ⟨ys, ?_,h8⟩
    simp only [Instr.fill,hpl]
    rw [if_neg (by rw [← hsz,hvc.1]; simp; omega)]
    exact h7
   ·cases h
theorem zfP:∀ (xs:List GV) (l:List UInt8) (vs:List Value),zcM xs=some l→xs.length=vs.length→(∀ (i:Nat) c v,xs[i]?=some c→vs[i]?=some v→VR K c v) →
 ∃ ns:List Int,vs=ns.map (Value.int .u8)∧l=ns.map (fun n=>UInt8.ofNat n.toNat):=by
 intro xs
 induction xs with
 | nil=>intro l vs h hl _; cases vs with
  | nil=>simp only [zcM,Option.some.injEq] at h; subst h; exact ⟨[],rfl,rfl⟩
  | cons _ _=>simp at hl
 | cons x xs ih =>
  intro l vs h hl hr
  cases vs with
  | nil=>simp at hl
  | cons v vs =>
   unfold zcM at h
   split at h
   ·rename_i heq; cases heq
   ·rename_i n l1 heq
    injection heq with e1 e2; subst e1 e2
    simp only [Option.map_eq_some_iff] at h
    obtain ⟨l2,h2,rfl⟩:=h
    obtain ⟨ns,hn1,hn2⟩:=ih l2 vs h2 (by simpa using hl) (fun i c v a b=>hr (i+1) c v (by simpa using a) (by simpa using b))
    have:=hr 0 (.int .u8 n) v rfl rfl
    cases this
    exact ⟨n::ns,by simp [hn1],by simp [hn2]⟩
   ·cases h
end
end Go.Sh
