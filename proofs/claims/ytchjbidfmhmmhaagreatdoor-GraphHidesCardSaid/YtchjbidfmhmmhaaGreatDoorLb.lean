/- Own work: the zaG machine and what it shows, part Lb. -/
import Derived.Test.YtchjbidfmhmmhaaGreatDoorLa
set_option linter.all false
namespace Go.Proofs.YtchjbidfmhmmhaaGreatDoor
open Go.Sh
set_option maxHeartbeats 4000000
set_option maxRecDepth 100000
def zpa (R:List Evt):Vw:={ zgM R with nodes:=zdS R,labels:=zcm R,values:=zbR R,names:=zdT R }
theorem znR {R:List Evt} (h:Row R):zgM R=zpa R:=by
 have e1:(zgM R).nodes=zdS R:=zoV h _
 have e2:(zgM R).labels=zcm R:=funext fun k=>ze6 _ k
 have e3:(zgM R).values=zbR R:=funext fun z=>zhz (znQ h) z
 have e4:(zgM R).names=zdT R:=funext fun o=>zoX h (znQ h) o
 unfold zpa
 rw [← e1,← e2,← e3,← e4]
section
variable {R:List Evt} {vr:GV} (h:RowV R vr) (hok:VwOk (zpa R) (zbD R))
include h hok
end
section
variable {R:List Evt} {vr:GV} (h:RowV R vr) (hok:VwOk (zpa R) (zbD R))
include h hok
end
theorem zhg {R:List Evt} (h:Row R) {x:El} (hx:x∈zbg R):ElFit x:=by
 obtain ⟨e,he,rfl⟩:=((zbJ R).2 x).1 hx
 exact (h.fit e he).x
theorem zr7 {R:List Evt} (h:Row R):VwOk (zpa R) (zbD R) where
 nodes:=by
  show (zdS R).length≤60
  unfold zdS
  rw [List.length_map]
  have h2:=List.length_filter_le (fun e:El=>decide (e.k=1)&&zdy R e.a) (zbg R)
  have h3:=zex R
  have h4:=h.le
  omega
 node:=fun k hk=>by
  change k∈zdS R at hk
  obtain ⟨e,he,rfl⟩:=List.mem_map.1 hk
  exact (zhg h (List.mem_filter.1 he).1).a
 labels:=fun k=>zo3 h k
 label:=fun k l hl=>by
  change l∈zcm R k at hl
  obtain ⟨e,he,rfl⟩:=List.mem_map.1 hl
  exact (zhg h (List.mem_filter.1 he).1).d
 names:=fun o=>zr3 h o
 name:=fun o l hl=>by
  change l∈zdT R o at hl
  obtain ⟨e,he,rfl⟩:=List.mem_map.1 hl
  exact (zhg h (List.mem_filter.1 he).1).d
 values:=fun z=>zo2 h z
 value:=fun z v hv=>zk3 h z v hv
 lcount:=zhC h
 link:=fun x hx=>by
  obtain ⟨_,e,he,_,rfl⟩:=zk1 h hx
  have:=zhg h he
  exact ⟨this.a,this.b,this.c⟩
end Go.Proofs.YtchjbidfmhmmhaaGreatDoor
