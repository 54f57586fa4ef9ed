/- The mark of the slice that is put next. -/
import Derived.Test.YtmgmfnimaafkdaaGreatDoorVE
import Derived.Shelf.Strings.Builder1
import Derived.Shelf.LaysM
import Derived.Shelf.Strconv.Itoa4
import Derived.Lib.ConvBytes
set_option maxRecDepth 100000
set_option maxHeartbeats 0
namespace Go.Proofs.YtmgmfnimaafkdaaGreatDoor
open Tryz
open Go.RowKit Go.Maps Go.Shelf Go.Sort
theorem MW(n:Nat)(hn:4≤n)(Bm b nn:Nat)(D0:DataW Unit)(f:Qj→Option Qx)(hf:SK.Yd D0 f)(w:World)(hBm:Bm<w.heap.size)(hm:w.cell? ⟨Bm,0,none⟩=some (.map (some b)))(hown:w.ownsMap prog 73 SK.R b nn D0)(hN:Maps.size D0≤1000000):
  CallsIn Fence.wide n prog 145 #[.func (.func 147) #[] #[.pointer (some ⟨Bm,0,none⟩)]] w fun e w'=>∃(v:Value)(ss:List Qj),e=.returned v∧SK.Keys f ss∧w'.ownsRow w.heap.size 73 2 v ss.length (QV ss)∧Below w.heap.size w w':=by
 have h1:1≤n:=by omega
 have a0:Fence.wide.fn 179:=trivial;refine callsIn_of_wp func145 rfl trivial ?_ rfl;simp only[ntmps145,List.size_toArray,List.length_cons,List.length_nil,Nat.reduceAdd,Nat.reduceSub,Array.replicate_succ,Array.replicate_zero,List.push_toArray,List.append_toArray,List.nil_append,List.cons_append]
 gi_wp2_with (gi_at_call 179;refine(MM (n-1) (by omega) Bm b nn D0 f hf w hBm hm hown hN).mono ?_;rintro e w' ⟨v,ss,rfl,hS,a,hb⟩)
 go_ret;exact⟨v,ss,rfl,hS,a,hb⟩
variable {cur:Array Value} {g n:Nat} {w:World}
theorem SE{os:Array Obj}{e:TypeId}{fr:Nat × Nat}(F:Array Value)(hb:w.heap[g]? =some (.cells cur e fr)):
  (grow (putRow id (Sort.ahead w n) g 0 F) os).heap[g]? =some (.cells (putCells id 0 F cur) e fr):=by
 have hg:g<w.heap.size:=(Array.getElem?_eq_some_iff.1 hb).1;rw[heap_grow_old _ _ (by simpa using hg)];simp[putRow,mapBlock,Sort.ahead,Array.getElem?_modify,hb,onCells]
theorem Wh{os:Array Obj}(F:Array Value):w.grownBy (grow (putRow id (Sort.ahead w n) g 0 F) os) (some g):=by
 refine⟨rfl,rfl,rfl,by simp,fun k hk hne=> ?_⟩;rw[heap_grow_old _ _ (by simpa using hk)];have:g≠k:=fun e=>hne (by rw[e])
 simp[putRow,mapBlock,Sort.ahead,Array.getElem?_modify,this]
theorem Rs(l:List Qj):flatK VD 2 l.toArray=(QV l).toArray:=by
 refine ext_get! (by simp[Ki]) fun t ht=> ?_
 have b:t<l.length*2:=by simpa using ht
 rw[get_flatK _ _ _ _ (by simpa using b)];have hd:t/2<l.length:=by omega
 have e1:(QV l).toArray[t]! =((QV l)[t]?).getD default:=by simp[Ki,b]
 rw[e1];have:∀(l:List Qj)(t:Nat)(h:t/2<l.length),(QV l)[t]? =(VD (l[t/2]))[t%2]? :=by
  intro l
  induction l with
  |nil=>intro t h;simp at h
  |cons a l ih=>
   intro t h;unfold QV at ih ⊢;rw[List.flatMap_cons];by_cases h2:t<2
   ·rw[List.getElem?_append_left (by simpa [VD]using h2)];have e0:t/2=0:=by omega
    have e2:t%2=t:=by omega
    simp[e0,e2]
   rw[List.getElem?_append_right (by simp[VD];omega)];have e0:t/2=(t-2)/2+1:=by omega
   have e2:t%2=(t-2)%2:=by omega
   have:=ih (t-2) (by simp only[List.length_cons]at h;omega);simp only[VD,List.length_cons,List.length_nil]at this ⊢;rw[this];simp[e0,e2]
 rw[this l t hd];have hm:t%2<2:=Nat.mod_lt _ (by decide);have e3:l.toArray[t/2]! =l[t/2]:=by simp[hd]
 rw[e3];simp[VD,List.getElem!_eq_getElem?_getD]
theorem NF{e:TypeId}{ss:List Qj}(hb:w.heap[g]? =some (.cells cur e (0,0)))(ht:cur.toList.take (ss.length*2)=QV ss):HoldsK VD 2 w g 0 ss.toArray:=by
 unfold HoldsK;rw[Rs];intro j hj;have a:j<ss.length*2:=by simpa [Ki]using hj
 refine⟨?_,by simp[World.frozen?, hb]⟩;have h1:(cur.toList.take (ss.length*2))[j]? =(QV ss)[j]? :=by rw[ht]
 rw[List.getElem?_take_of_lt a]at h1;simp only[World.cell?, hb,Nat.zero_add];simp only[Option.isSome_none,Bool.false_eq_true,if_false];rw[←Array.getElem?_toList,h1];simp[Ki,a]
theorem FL(cur:Array Value)(F:List Value)(h:F.length≤cur.size):(putCells id 0 F.toArray cur).toList.take F.length=F:=by
 apply List.ext_getElem?; intro j;by_cases hj:j<F.length
 ·rw[List.getElem?_take_of_lt hj,Array.getElem?_toList];simp[putCells,hj,show j<cur.size by omega]
 rw[List.getElem?_take_eq_none (by omega),List.getElem?_eq_none (by omega)]
def E9(x y:Qj):Bool:= !(ltOf Db) y x
theorem M0{α:Type}{l:List (Qj × α)}(hs:Xa l){ss:List Qj}(hp:ss.Perm (l.map (·.1))):ss.mergeSort E9=l.map (·.1):=by
 have d:∀a b,E9 a b=true↔¬Wq b a=true:=fun a b=>by unfold E9;rw[W9];simp
 have tr:∀a b c:Qj,E9 a b=true→E9 b c=true→E9 a c=true:=fun a b c h1 h2=>by
  rw[d,XI]at *; omega
 have e:∀a b:Qj,(E9 a b||E9 b a)=true:=fun a b=>by
  rw[Bool.or_eq_true,d,d,XI,XI];omega
 refine List.Perm.eq_of_pairwise (le:=fun a b=>E9 a b=true) (fun a b _ _ h1 h2=> ?_) (List.pairwise_mergeSort tr e ss) ?_ ((List.mergeSort_perm ss E9).trans hp)
 ·rw[d,XI]at h1 h2;exact Prod.ext (by omega) (by omega)
 refine List.pairwise_map.2 (hs.imp fun {a b} h=> ?_);rw[d];intro h2;exact M4 (Ir h h2) rfl
theorem N4{α:Type}(Bm b nn:Nat)(D0:DataW Unit)(f:Qj→Option Qx)(hf:SK.Yd D0 f)(w:World)(hBm:Bm<w.heap.size)(hm:w.cell? ⟨Bm,0,none⟩=some (.map (some b)))(hown:w.ownsMap prog 73 SK.R b nn D0)(hN:Maps.size D0≤1000000)
  (l:List (Qj × α))(hs:Xa l)(hl:SK.Keys f (l.map (·.1)))(hl6:l.length≤1000000):
  Calls prog 87 #[.func (.func 147) #[] #[.pointer (some ⟨Bm,0,none⟩)],.func (.func 89) #[] #[]] w fun e w'=>∃A c,e=.returned (.slice A l.length c)∧w'.ownsRow w.heap.size 73 2 (.slice A l.length c) l.length (QV (l.map (·.1)))∧Below w.heap.size w w':=by
 have HC:=Qa ((callsIn_wide (n:=5)).1 (MW 5 (by omega) Bm b nn D0 f hf w hBm hm hown hN));have HS:=Qa (fun (blk cap:Nat) (d:Array Qj) (W:World) hH hblk k=>AnyQ.slices_SortFunc_total (P:=prog) Tryz.F5 2 isAgg73 sizeOf73 VD (fun _=>rfl) (fun x v hv=>by simp[VD]at hv;rcases hv with rfl|rfl<;>rfl) Db Bg 89 #[] blk 0 cap d W (enters_of func89 (by kernel_rfl) rfl) (fun _ _ _ _ x y=>P5 x y _) hH hblk k Bk);have HN:=Qa (fun p cap W=>AnyF.slices_SortFunc_none (P:=prog) (ρ:=Tryz.RO) { Tryz.F5 with } p cap (.func (.func 89) #[] #[]) W);have HL:=Qa hl;have z:=Qa hs;have t:(l.map (·.1)).length=l.length:=List.length_map _;clear hf hm hown hl hs;go_enter func87,ntmps87;go_upto_region 2 with(go_at_call 145;refine HC.o.mono ?_;rintro e w1 ⟨v,ss,rfl,hS,q,hb⟩;(have C:=Qa hS);(have m:=Qa q);(have HB:=Qa hb);clear hS q hb);have hp:=KV.Keys.perm C.o HL.o;have a:ss.length=l.length:=by rw[hp.length_eq,t]
 have i:=M0 z.o hp;have a0:=Qa i;have g:=Qa a;rcases m.o.2 with⟨hv,hz⟩|⟨gb,cap,cur,hv,hbase,hgb,r1,r2,r3,r4⟩
 ·subst hv;have B:ss=[]:=List.eq_nil_of_length_eq_zero hz;subst B;have F:l=[]:=List.eq_nil_of_length_eq_zero a.symm;subst F;have E:=@Qa (Calls prog 146 #[.slice none 0 0,.func (.func 89) #[] #[]] w1 fun e w'=>e=.returned (.tuple #[])∧w'=w1) (HN.o none 0 w1);clear i hp a hz t;go_wp2_with (go_at_call 146;refine E.o.mono ?_;rintro e w' ⟨rfl,rfl⟩);go_ret;exact⟨none,0,rfl,m.o,HB.o⟩
 subst hv;have hH:=NF hgb r4;have u:gb<w1.heap.size:=(Array.getElem?_eq_some_iff.1 hgb).1;have k:ss.toArray.size<4611686018427387904:=by simp;omega
 have h:=HS.o gb cap ss.toArray w1 hH u k
 have s:=@Qa (Calls prog 146 #[.slice (some ⟨gb,0,none⟩) ss.length cap,.func (.func 89) #[] #[]] w1 fun e w'=>e=.returned (.tuple #[])∧∃n os,w'=grow (putRow id (Sort.ahead w1 n) gb 0 (QV (l.map (·.1))).toArray) os) (by
  refine h.mono ?_;rintro e w' ⟨he,n,os,hw⟩;refine⟨he,n,os, ?_⟩;rw[hw];unfold sortWorldK putRowK;have e2:(ss.toArray.toList.mergeSort fun x y=> !(ltOf Db) y x)=l.map (·.1):=i;rw[e2,Rs])
 have R4:=Qa r4;have R3:=Qa r3;have r:=Qa (And.intro r1 r2);have D:=Qa hgb;clear i hp hH h r4 r3 hgb t r1 r2 k a;go_wp2_with (go_at_call 146;refine s.o.mono ?_;rintro e w' ⟨rfl,n,os,rfl⟩);go_ret;refine⟨some ⟨gb,0,none⟩,cap,(by rw[g.o];rfl), ?_,HB.o.grown (Wh _) HB.o.size (fun j hj=>by injection hj with hj;omega)⟩;refine⟨by rw[Ki,List.length_map],.inr ⟨gb,cap,_,rfl,hbase,SE _ D.o,by rw[←g.o];exact r.o.1,r.o.2,by rw[←R3.o];simp[putCells], ?_⟩⟩;have:=FL cur (QV (l.map (·.1))) (by rw[Ki,List.length_map,R3.o];have:=r.o.1;have:=g.o;omega);rw[Ki,List.length_map]at this;exact this
variable {Sb base:Nat} {m:KY} {s:QM}
theorem Ow(h:QO w base Sb s m)(hs:Xa s.Qc)(hr:∀x∈s.Qc,Kf x∧x.2.len≤1048576)(hl:s.Qc.length≤1000000):
  Calls prog 35 #[.pointer (some ⟨Sb,0,none⟩)] w fun e w'=>∃A c,e=.returned (.slice A s.Qc.length c)∧w'.ownsRow w.heap.size 73 2 (.slice A s.Qc.length c) s.Qc.length (QV (s.Qc.map (·.1)))∧Below w.heap.size w w':=by
 have hk:=JO hs hr;have b:Below w.heap.size w (w.alloc (.cells #[.map (some m.Pb)] 125)):=bR.alloc nR _;obtain⟨D,a,hf⟩:=h.pmap.below b;have d:Maps.size D≤1000000:=by rw[KV.size a hf hk,List.length_map];exact hl
 have f:=Qa ((callsIn_wide (n:=5)).1 (Mg Fence.wide 5 trivial rfl (some m.Pb) w));have HC:=Qa (N4 w.heap.size m.Pb _ D (QC s.Qc) hf (w.alloc (.cells #[.map (some m.Pb)] 125)) (by simp) (by simp) a d s.Qc hs hk hl);have c5:w.cell? ⟨Sb,5,none⟩=some (.map (some m.Pb)):=h.blk.cell 5;have a0:=h.blk.lt;have g:=Qa b;clear h hs hr hk a hf d b;go_enter func35,ntmps35
 go_wp2_with (first
  |(go_at_call 88;refine f.o.mono ?_;rintro e w' ⟨rfl,rfl⟩)
  |(go_at_call 87;refine HC.o.mono ?_;rintro e w2 ⟨A,c,rfl,ho,hb⟩;(have HO:=Qa ho);(have HB:=Qa hb);clear ho hb))
 go_ret;exact⟨A,c,rfl,Xe HO.o (by simp),g.o.trans (HB.o.mono (by simp))⟩
end Go.Proofs.YtmgmfnimaafkdaaGreatDoor
namespace Go.Proofs
open Go.Shelf
def Tryz.I5:Go.Shelf.Ren:=⟨fun|166=>98|240=>155|276=>185|n=>n,fun|0=>0|3=>3|4=>4|5=>5|9=>9|20=>20|37=>43|70=>194|72=>196|75=>198|80=>204|164=>290|n=>n,fun|n=>n⟩
theorem Tryz.DE:Go.Proofs.Lays.n166 Tryz.prog Tryz.I5:={
 mixed:=by kernel_rfl
 f166:=Tryz.func98.trans (congrArg some (by kernel_rfl))
 f240:=Tryz.func155.trans (congrArg some (by kernel_rfl))
 f276:=Tryz.func185.trans (congrArg some (by kernel_rfl))
 t0:=Tryz.underlying0
 a0:=Tryz.isAgg0
 z0:=Tryz.sizeOf0
 v0:=Tryz.zeroValue0
 t3:=Tryz.underlying3
 a3:=Tryz.isAgg3
 z3:=Tryz.sizeOf3
 v3:=Tryz.zeroValue3
 t4:=Tryz.underlying4
 a4:=Tryz.isAgg4
 z4:=Tryz.sizeOf4
 v4:=Tryz.zeroValue4
 t9:=Tryz.underlying9
 a9:=Tryz.isAgg9
 z9:=Tryz.sizeOf9
 v9:=Tryz.zeroValue9
 t20:=Tryz.underlying20
 a20:=Tryz.isAgg20
 z20:=Tryz.sizeOf20
 v20:=Tryz.zeroValue20
 t37:=Tryz.underlying43
 a37:=Tryz.isAgg43
 z37:=Tryz.sizeOf43
 v37:=Tryz.zeroValue43
 t70:=Tryz.underlying194
 a70:=Tryz.isAgg194
 z70:=Tryz.sizeOf194
 v70:=Tryz.zeroValue194
 t72:=Tryz.underlying196
 a72:=Tryz.isAgg196
 z72:=Tryz.sizeOf196
 v72:=Tryz.zeroValue196
 t75:=Tryz.underlying198
 a75:=Tryz.isAgg198
 z75:=Tryz.sizeOf198
 v75:=Tryz.zeroValue198
 t164:=Tryz.underlying290
 a164:=Tryz.isAgg290
 z164:=Tryz.sizeOf290
 v164:=Tryz.zeroValue290 }
theorem Tryz.UR:Builder.Extra Tryz.prog Tryz.I5:={
 sizeBuilder:=by kernel_rfl
 liesBuilder:=by kernel_rfl
 t5:=Tryz.underlying5
 a5:=Tryz.isAgg5
 z5:=Tryz.sizeOf5
 v5:=Tryz.zeroValue5
 infoByte:=by kernel_rfl
 cellsByte:=by kernel_rfl
 sizeByte:=by kernel_rfl
 neB5:=by decide }
open Go.RowKit in
theorem Tryz.Builder_WriteString(B b:Nat)(bs:List Value)(s:ByteArray)(w:World)(h:Lib.IsBuilder 196 5 B b bs w)(hlen:bs.length+s.size≤140737488355328)(hBw:B≤w.heap.size):
  Calls Tryz.prog 98 #[.pointer (some ⟨b,0,none⟩),.string s] w fun e w'=>e=.returned (.tuple #[.int .i64 s.size,.nilIface])∧(Lib.BuilderAt 196 5 B b (.pointer (some ⟨b,0,none⟩)) (bs++Lib.strCells s) w'∧Below B w w'):=Any.Builder_WriteString Tryz.DE Tryz.UR B b bs s w h hlen hBw
def Tryz.I4:Go.Shelf.Ren:=⟨fun|167=>99|240=>155|276=>185|n=>n,fun|0=>0|3=>3|4=>4|5=>5|9=>9|20=>20|37=>43|70=>194|72=>196|75=>198|80=>204|164=>290|n=>n,fun|n=>n⟩
theorem Tryz.Dk:Go.Proofs.Lays.n167 Tryz.prog Tryz.I4:={
 mixed:=by kernel_rfl
 f167:=Tryz.func99.trans (congrArg some (by kernel_rfl))
 f240:=Tryz.func155.trans (congrArg some (by kernel_rfl))
 f276:=Tryz.func185.trans (congrArg some (by kernel_rfl))
 t0:=Tryz.underlying0
 a0:=Tryz.isAgg0
 z0:=Tryz.sizeOf0
 v0:=Tryz.zeroValue0
 t4:=Tryz.underlying4
 a4:=Tryz.isAgg4
 z4:=Tryz.sizeOf4
 v4:=Tryz.zeroValue4
 t5:=Tryz.underlying5
 a5:=Tryz.isAgg5
 z5:=Tryz.sizeOf5
 v5:=Tryz.zeroValue5
 t9:=Tryz.underlying9
 a9:=Tryz.isAgg9
 z9:=Tryz.sizeOf9
 v9:=Tryz.zeroValue9
 t20:=Tryz.underlying20
 a20:=Tryz.isAgg20
 z20:=Tryz.sizeOf20
 v20:=Tryz.zeroValue20
 t37:=Tryz.underlying43
 a37:=Tryz.isAgg43
 z37:=Tryz.sizeOf43
 v37:=Tryz.zeroValue43
 t70:=Tryz.underlying194
 a70:=Tryz.isAgg194
 z70:=Tryz.sizeOf194
 v70:=Tryz.zeroValue194
 t72:=Tryz.underlying196
 a72:=Tryz.isAgg196
 z72:=Tryz.sizeOf196
 v72:=Tryz.zeroValue196
 t75:=Tryz.underlying198
 a75:=Tryz.isAgg198
 z75:=Tryz.sizeOf198
 v75:=Tryz.zeroValue198
 t164:=Tryz.underlying290
 a164:=Tryz.isAgg290
 z164:=Tryz.sizeOf290
 v164:=Tryz.zeroValue290 }
theorem Tryz.UY:Builder.Extra Tryz.prog Tryz.I4:={
 sizeBuilder:=by kernel_rfl
 liesBuilder:=by kernel_rfl
 t5:=Tryz.underlying5
 a5:=Tryz.isAgg5
 z5:=Tryz.sizeOf5
 v5:=Tryz.zeroValue5
 infoByte:=by kernel_rfl
 cellsByte:=by kernel_rfl
 sizeByte:=by kernel_rfl
 neB5:=by decide }
open Go.RowKit in
theorem Tryz.Builder_WriteByte(B b:Nat)(bs:List Value)(c:Int)(w:World)(h:Lib.IsBuilder 196 5 B b bs w)(hlen:bs.length+1≤140737488355328)(hBw:B≤w.heap.size):
  Calls Tryz.prog 99 #[.pointer (some ⟨b,0,none⟩),.int .u8 c] w fun e w'=>e=.returned .nilIface∧(Lib.BuilderAt 196 5 B b (.pointer (some ⟨b,0,none⟩)) (bs++[.int .u8 c]) w'∧Below B w w'):=Any.Builder_WriteByte Tryz.Dk Tryz.UY B b bs c w h hlen hBw
def Tryz.Wd:Go.Shelf.Ren:=⟨fun|169=>101|n=>n,fun|70=>194|9=>9|0=>0|72=>196|37=>43|127=>259|3=>3|5=>5|n=>n,fun|n=>n⟩
theorem Tryz.Da:Go.Proofs.Lays.n169 Tryz.prog Tryz.Wd:={
 mixed:=by kernel_rfl
 f169:=Tryz.func101.trans (congrArg some (by kernel_rfl))
 t0:=Tryz.underlying0
 a0:=Tryz.isAgg0
 z0:=Tryz.sizeOf0
 v0:=Tryz.zeroValue0
 t3:=Tryz.underlying3
 a3:=Tryz.isAgg3
 z3:=Tryz.sizeOf3
 v3:=Tryz.zeroValue3
 t9:=Tryz.underlying9
 a9:=Tryz.isAgg9
 z9:=Tryz.sizeOf9
 v9:=Tryz.zeroValue9
 t37:=Tryz.underlying43
 a37:=Tryz.isAgg43
 z37:=Tryz.sizeOf43
 v37:=Tryz.zeroValue43
 t70:=Tryz.underlying194
 a70:=Tryz.isAgg194
 z70:=Tryz.sizeOf194
 v70:=Tryz.zeroValue194
 t72:=Tryz.underlying196
 a72:=Tryz.isAgg196
 z72:=Tryz.sizeOf196
 v72:=Tryz.zeroValue196
 t127:=Tryz.underlying259
 a127:=Tryz.isAgg259
 z127:=Tryz.sizeOf259
 v127:=Tryz.zeroValue259 }
theorem Tryz.UH:Builder.Extra Tryz.prog Tryz.Wd:={
 sizeBuilder:=by kernel_rfl
 liesBuilder:=by kernel_rfl
 t5:=Tryz.underlying5
 a5:=Tryz.isAgg5
 z5:=Tryz.sizeOf5
 v5:=Tryz.zeroValue5
 infoByte:=by kernel_rfl
 cellsByte:=by kernel_rfl
 sizeByte:=by kernel_rfl
 neB5:=by decide }
open Go.RowKit in
theorem Tryz.Builder_String_any(B b:Nat)(l:List UInt8)(w:World)(h:Lib.IsBuilder 196 5 B b (Lib.byteCells l) w)(hBw:B≤w.heap.size):
  Calls Tryz.prog 101 #[.pointer (some ⟨b,0,none⟩)] w fun e w'=>e=.returned (.string ⟨l.toArray⟩)∧Below B w w':=Any.Builder_String_any Tryz.Da Tryz.UH B b l w h hBw
def Tryz.PM:Go.Shelf.Ren:=⟨fun|173=>100|246=>156|283=>186|284=>187|285=>188|286=>189|129=>205|317=>214|318=>215|319=>216|320=>217|337=>239|338=>240|n=>n,fun|2=>2|3=>3|9=>9|4=>4|171=>293|0=>0|53=>263|37=>43|5=>5|173=>295|212=>316|51=>264|20=>20|213=>317|46=>244|232=>348|233=>349|n=>n,fun|17=>0|18=>5|19=>6|n=>n⟩
theorem Tryz.F7:Go.Proofs.LaysM.n173 Tryz.prog Tryz.PM:={
 mixed:=by kernel_rfl
 f129:=Tryz.func205.trans (congrArg some (by kernel_rfl))
 f173:=Tryz.func100.trans (congrArg some (by kernel_rfl))
 f246:=Tryz.func156.trans (congrArg some (by kernel_rfl))
 f283:=Tryz.func186.trans (congrArg some (by kernel_rfl))
 f284:=Tryz.func187.trans (congrArg some (by kernel_rfl))
 f285:=Tryz.func188.trans (congrArg some (by kernel_rfl))
 f286:=Tryz.func189.trans (congrArg some (by kernel_rfl))
 f317:=Tryz.func214.trans (congrArg some (by kernel_rfl))
 f318:=Tryz.func215.trans (congrArg some (by kernel_rfl))
 f319:=Tryz.func216.trans (congrArg some (by kernel_rfl))
 f320:=Tryz.func217.trans (congrArg some (by kernel_rfl))
 f337:=Tryz.func239.trans (congrArg some (by kernel_rfl))
 f338:=Tryz.func240.trans (congrArg some (by kernel_rfl))
 t0:=Tryz.underlying0
 a0:=Tryz.isAgg0
 z0:=Tryz.sizeOf0
 v0:=Tryz.zeroValue0
 t2:=Tryz.underlying2
 a2:=Tryz.isAgg2
 z2:=Tryz.sizeOf2
 v2:=Tryz.zeroValue2
 t3:=Tryz.underlying3
 a3:=Tryz.isAgg3
 z3:=Tryz.sizeOf3
 v3:=Tryz.zeroValue3
 t4:=Tryz.underlying4
 a4:=Tryz.isAgg4
 z4:=Tryz.sizeOf4
 v4:=Tryz.zeroValue4
 t5:=Tryz.underlying5
 a5:=Tryz.isAgg5
 z5:=Tryz.sizeOf5
 v5:=Tryz.zeroValue5
 t9:=Tryz.underlying9
 a9:=Tryz.isAgg9
 z9:=Tryz.sizeOf9
 v9:=Tryz.zeroValue9
 t20:=Tryz.underlying20
 a20:=Tryz.isAgg20
 z20:=Tryz.sizeOf20
 v20:=Tryz.zeroValue20
 t37:=Tryz.underlying43
 a37:=Tryz.isAgg43
 z37:=Tryz.sizeOf43
 v37:=Tryz.zeroValue43
 t46:=Tryz.underlying244
 a46:=Tryz.isAgg244
 z46:=Tryz.sizeOf244
 v46:=Tryz.zeroValue244
 t51:=Tryz.underlying264
 a51:=Tryz.isAgg264
 z51:=Tryz.sizeOf264
 v51:=Tryz.zeroValue264
 t53:=Tryz.underlying263
 a53:=Tryz.isAgg263
 z53:=Tryz.sizeOf263
 v53:=Tryz.zeroValue263
 t171:=Tryz.underlying293
 a171:=Tryz.isAgg293
 z171:=Tryz.sizeOf293
 v171:=Tryz.zeroValue293
 t173:=Tryz.underlying295
 a173:=Tryz.isAgg295
 z173:=Tryz.sizeOf295
 v173:=Tryz.zeroValue295
 t212:=Tryz.underlying316
 a212:=Tryz.isAgg316
 z212:=Tryz.sizeOf316
 v212:=Tryz.zeroValue316
 t213:=Tryz.underlying317
 a213:=Tryz.isAgg317
 z213:=Tryz.sizeOf317
 t232:=Tryz.underlying348
 a232:=Tryz.isAgg348
 z232:=Tryz.sizeOf348
 v232:=Tryz.zeroValue348
 t233:=Tryz.underlying349
 a233:=Tryz.isAgg349
 z233:=Tryz.sizeOf349
 v233:=Tryz.zeroValue349
 g17:=by kernel_rfl
 g18:=by kernel_rfl
 g19:=by kernel_rfl
 i0:=by kernel_rfl
 i2:=by kernel_rfl
 i3:=by kernel_rfl
 i4:=by kernel_rfl
 i5:=by kernel_rfl
 i9:=by kernel_rfl
 i20:=by kernel_rfl
 i37:=by kernel_rfl
 i46:=by kernel_rfl
 i51:=by kernel_rfl
 i53:=by kernel_rfl
 i171:=by kernel_rfl
 i173:=by kernel_rfl
 i212:=by kernel_rfl
 i232:=by kernel_rfl
 i233:=by kernel_rfl
 m17:=by kernel_rfl
 m18:=by kernel_rfl
 m19:=by kernel_rfl }
open Go.RowKit Go.Sort Go.Lib in
theorem Tryz.strconv_FormatInt_10(n:Int)(h0: -9223372036854775808≤n)(h1:n≤9223372036854775807)(w:World)(htab:Lib.TabIs Tryz.prog w "internal/strconv.uint64pow10" .u64 Lib.pow10Tab):
  Calls Tryz.prog 100 #[.int .i64 n,.int .i64 10] w fun e w'=>e=.returned (.string ⟨(Lib.itoa n).toArray⟩)∧∃k os,w'=grow (w.drewN k) os:=Any.strconv_FormatInt_10 Tryz.F7 n h0 h1 w htab
end Go.Proofs
namespace Go.Proofs.YtmgmfnimaafkdaaGreatDoor
open Tryz
open Go.RowKit Go.Maps
theorem Dq(n:Int)(h0: -9223372036854775808≤n)(h1:n≤9223372036854775807)(w:World)(ht:Tb w):
  Calls prog 100 #[.int .i64 n,.int .i64 10] w fun e w'=>e=.returned (Qw (Lib.itoa n))∧Below w.heap.size w w':=
 (Tryz.strconv_FormatInt_10 n h0 h1 w ht).mono fun _ _ ⟨he,k,os,hw⟩=>⟨he,hw▸Lib.below_grow _ _ nR k os⟩
theorem Tc(sep:List UInt8)(r:List (List UInt8))(y:List UInt8):Lib.joinTail sep (r++[y])=Lib.joinTail sep r++(sep++y):=by
 unfold Lib.joinTail;simp
theorem Fs(xs:List (List UInt8))(y sep:List UInt8)(h:xs≠[]):Lib.join (xs++[y]) sep=Lib.join xs sep++(sep++y):=by
 cases xs with
 |nil=>exact absurd rfl h
 |cons x r=>rw[List.cons_append,Lib.join_cons,Lib.join_cons,Tc,List.append_assoc]
theorem GS:Qi []=[]:=rfl
theorem Gv(n:Int):Qi [n]=Lib.itoa n:=by unfold Qi;rw[List.map_cons,List.map_nil,Lib.join_one]
theorem LH(l:List Int)(n:Int)(h:l≠[]):Qi (l++[n])=Qi l++([32]++Lib.itoa n):=by
 unfold Qi;rw[List.map_append,List.map_cons,List.map_nil,Fs _ _ _ (by simpa using h)]
theorem DO(l:List Int)(hn:∀x∈l,-9223372036854775808≤x∧x≤9223372036854775807):Lib.lens (l.map Lib.itoa)≤21*l.length:=by
 induction l with
 |nil=>simp[Lib.lens]
 |cons a l ih=>
  have h1:=hn a List.mem_cons_self;have h2:=Lib.itoa_length_le a h1.1 h1.2;have h3:=ih fun x hx=>hn x (List.mem_cons_of_mem _ hx)
  unfold Lib.lens at h3 ⊢;simp only[List.map_cons,List.sum_cons,List.length_cons]at h3 ⊢;omega
theorem KX(l:List Int)(hn:∀x∈l,-9223372036854775808≤x∧x≤9223372036854775807):(Qi l).length≤22*l.length:=by
 cases l with
 |nil=>simp[GS]
 |cons a r=>
  have h1:=hn a List.mem_cons_self;have h2:=Lib.itoa_length_le a h1.1 h1.2;have h3:=DO r fun x hx=>hn x (List.mem_cons_of_mem _ hx)
  unfold Qi;rw[List.map_cons,Lib.join_cons,List.length_append,Lib.joinTail_length,List.length_map];simp only[List.length_cons,List.length_nil];omega
variable {B:Nat} {w w':World}
theorem OP{b:Nat}{bs:List Value}(h:Lib.IsBuilder 196 5 B b bs w)(hb:Below w.heap.size w w'):Lib.IsBuilder 196 5 B b bs w':=by
 have go:∀p,Lib.BuilderAt 196 5 B b p bs w→Lib.BuilderAt 196 5 B b p bs w':=fun p ⟨h1,v,h2,h3,h4⟩=>
  ⟨h1,v,(hb.block b (Array.getElem?_eq_some_iff.1 h2).1).trans h2,QF h3 (ts:=[]) (Qd.Qe (base:=0) hb (Nat.zero_le _)) (by simp),h4⟩
 rcases h with h|h
 ·exact .inl (go _ h)
 exact .inr (go _ h)
theorem Zb(a b:List UInt8):Lib.byteCells (a++b)=Lib.byteCells a++Lib.byteCells b:=by simp[Lib.byteCells]
def J8(l:List Int):List Value:=l.map (Value.int .i64)
theorem XC(l:List Int)(A:Option Addr)(c:Nat)(h:Rd w w.heap.size 1 A l.length (J8 l))(hl:l.length≤1000)(hn:∀x∈l,-9223372036854775808≤x∧x≤9223372036854775807)(ht:Tb w):
  Calls prog 123 #[.slice A l.length c] w fun e w'=>e=.returned (Qw (Qi l))∧Below w.heap.size w w':=by
 have Q:=Qa h;have HN:=Qa hn;have HT:=Qa ht;clear h hn ht;go_enter func123,ntmps123;go_upto_region 2 with fail;have B:Below w.heap.size w (w.alloc (.cells #[.pointer none,.slice none 0 0] 196)):=bR.alloc nR _;have O:=Qa B;have P:=Qa (Lib.fresh_isBuilder 196 5 w);clear B;generalize w.alloc (.cells #[.pointer none,.slice none 0 0] 196)=w1 at*
 go_wp2_with fail;go_loopw [8] (fun i wr=>∃k:Nat,k≤l.length∧i=.int .i64 (k:Nat)∧Lib.IsBuilder 196 5 w.heap.size w.heap.size (Lib.byteCells (Qi (l.take k))) wr∧Below w.heap.size w wr) (fun i _=>l.length-(intOf i).toNat)
 case atStart=>exact⟨0,Nat.zero_le _,rfl,P.o,O.o⟩
 obtain⟨k,hk,rfl,E,r⟩:=hrel;have HB:=Qa E;have g:=Qa r;have R:=r.size;clear E r;by_cases hkl:k<l.length
 ·have J:(k:Int)<l.length:=by omega
  obtain⟨b,o,hA,T,hc⟩:=Q.o.2 (by omega);have G:wr.cell? ⟨b,o+k,none⟩=some (.int .i64 l[k]):=by
   have:=hc k (by unfold J8;simpa using hkl);rw[g.o.cell (p:=⟨b,o+k,none⟩) T,this];simp[J8]
  have hx:=HN.o l[k] (List.getElem_mem _);have q:=KX (l.take k) fun x hx=>HN.o x (List.mem_of_mem_take hx)
  rw[List.length_take,Nat.min_eq_left hk]at q;have z:l.take (k+1)=l.take k++[l[k]]:=List.take_succ_eq_append_getElem hkl;subst hA;generalize l[k]=x at*
  have a3:=Lib.itoa_length_le x hx.1 hx.2;have n:(ByteArray.mk (Lib.itoa x).toArray).size=(Lib.itoa x).length:=by simp[ByteArray.size]
  have D:=Qa (fun wy (hy:Below w.heap.size w wy)=>Dq x hx.1 hx.2 wy (HT.o.below hy));have H:=Qa z;clear z hc;obtain⟨bs,m⟩:=eX (Qi (l.take k));rw[←m]at HB q;have s:(Lib.byteCells bs).length=bs.length:=by simp[Lib.byteCells]
  by_cases hk0:k=0
  ·subst hk0;have F:bs=[]:=by rw[m];rfl
   subst F;have a1:wr.cell? ⟨b,o,none⟩=some (.int .i64 x):=G;clear G m
   go_wp2_with (first
    |(go_at_call 100;refine(D.o _ g.o).mono ?_;rintro en w2 ⟨rfl,a⟩;(have j:=Qa a);(have y:=Qa (OP HB.o a));(have L:=a.size);clear a)
    |(go_at_call 98;refine(Tryz.Builder_WriteString w.heap.size w.heap.size _ _ _ y.o (by rw[s,n];omega) (by omega)).mono ?_;rintro en w3 ⟨rfl,f,d⟩;(have u:=Qa f);(have v:=Qa d);(have K:=d.size);clear f d))
   go_roundw
   case rel=>
    refine⟨1,by omega,rfl,.inr ?_,(g.o.trans (j.o.mono R)).trans v.o⟩;rw[H.o,List.take_zero,List.nil_append,Gv];exact u.o
   case measure=>simp[intOf];omega
  have N:l.take k≠[]:=by
   rw[Ne,List.take_eq_nil_iff];rintro(h|h)
   ·exact hk0 h
   subst h;simp at hkl
  have a0:(k:Int)>0:=by omega
  go_wp2_with (first
   |(go_at_call 99;refine(Tryz.Builder_WriteByte w.heap.size w.heap.size _ 32 _ HB.o (by rw[s];omega) (by omega)).mono ?_;rintro en a2 ⟨rfl,C,I⟩;(have M:=Qa C);(have t:=Qa (g.o.trans I));(have S:=t.o.size);clear C I)
   |(go_at_call 100;refine(D.o _ t.o).mono ?_;rintro en w2 ⟨rfl,a⟩;(have j:=Qa (t.o.trans (a.mono S)));(have y:=Qa (OP (.inr M.o) a));(have L:=j.o.size);clear a)
   |(go_at_call 98;refine(Tryz.Builder_WriteString w.heap.size w.heap.size _ _ _ y.o (by rw[List.length_append,s,n];simp only[List.length_cons,List.length_nil];omega) (by omega)).mono ?_;rintro en w3 ⟨rfl,f,d⟩;(have u:=Qa f);(have v:=Qa (j.o.trans d));(have K:=d.size);clear f d))
  go_roundw
  case rel=>
   refine⟨k+1,by omega,by simp,.inr ?_,v.o⟩;rw[H.o,LH _ _ N,Zb,Zb,←List.append_assoc,←m];exact u.o
  case measure=>simp[intOf];omega
 have J:¬(k:Int)<l.length:=by omega
 have U:k=l.length:=by omega
 subst U;rw[List.take_length]at HB;go_wp2_with (go_at_call 101;refine(Tryz.Builder_String_any w.heap.size w.heap.size _ _ HB.o (by omega)).mono ?_;rintro en w2 ⟨rfl,a⟩);go_ret;exact⟨rfl,g.o.trans a⟩
end Go.Proofs.YtmgmfnimaafkdaaGreatDoor
namespace Go.Proofs.YtmgmfnimaafkdaaGreatDoor
open Tryz
open Go.RowKit Go.Maps Go.Shelf Go.Sort
theorem CL(m:Nat):AnyZI.SortsIn prog Tryz.Wg Fence.wide m:=
 ⟨fun blk off cap ss W hH hblk hsz=>callsIn_wide.2 (AnyM.slices_Sort_int Tryz.DY blk off cap ss W hH hblk hsz),
  fun p cap W=>callsIn_wide.2 (AnyM.slices_Sort_int_none Tryz.DY p cap W)⟩
theorem Td(mb:Option Nat)(W:World):Calls prog 91 #[.map mb] W fun e w'=>e=.returned (.func (.func 152) #[] #[.pointer (some ⟨W.heap.size,0,none⟩)])∧w'=W.alloc (.cells #[.map mb] 124):=
 (callsIn_wide (n:=5)).1 (AnyZI.keys_in Tryz.Ca Fence.wide 5 trivial rfl mb W)
theorem Lj{α:Type}{l:List (Int × α)}(hs:Yx l){ss:List Int}(hp:ss.Perm (l.map (·.1))):ss.mergeSort (fun x y=>decide (x≤y))=l.map (·.1):=by
 have tr:∀a b c:Int,decide (a≤b)=true→decide (b≤c)=true→decide (a≤c)=true:=fun a b c h1 h2=>by simp only[decide_eq_true_eq]at *; omega
 have d:∀a b:Int,(decide (a≤b)||decide (b≤a))=true:=fun a b=>by simp only[Bool.or_eq_true,decide_eq_true_eq];exact Int.le_total a b
 refine List.Perm.eq_of_pairwise (le:=fun a b=>decide (a≤b)=true) (fun a b _ _ h1 h2=> ?_) (List.pairwise_mergeSort tr d ss) (List.pairwise_map.2 (hs.imp fun h=>by simp only[decide_eq_true_eq];omega)) ((List.mergeSort_perm ss _).trans hp);simp only[decide_eq_true_eq]at h1 h2;omega
variable {n:Nat} {w:World}
theorem To{D:DataW Unit}{b:Nat}{f:Int→Option (List UInt8)}(hown:w.ownsMap prog 2 NK.R b n D)(hf:NK.Yd D f){I:List Int}(hk:NK.Keys f I):I.Perm (intKeys D):=by
 have hw:=intKeys_wf hown underlying2;have g:∀x,x∈intKeys D↔ZX x∧has D (.int .i64 x)=true:=by
  intro x;obtain⟨es,hD,c⟩:=hown.keysOf;subst hD;constructor
  ·intro hx;refine⟨hw x hx, ?_⟩;obtain⟨p,hp,rfl⟩:=List.mem_map.1 hx;obtain⟨v,hv⟩:=c p hp;obtain⟨y,_,hy,hl⟩:=Maps.keyOf_i64 underlying2 hv;rw[has_eq,List.any_eq_true];refine⟨p,hp, ?_⟩;rw[hy];exact WideAt.sameKey_self (Lo.key (keyOf_int_mk underlying2 hl))
  rintro⟨hx,hh⟩;rw[has_eq,List.any_eq_true]at hh;obtain⟨p,hp,he⟩:=hh;have:=WideAt.sameKey_eq he;exact List.mem_map.2 ⟨p,hp,by rw[this];rfl⟩
 have h:(intKeys D).Nodup:=by
  obtain⟨es,hD,i,_⟩:=hown.entries Lo;subst hD;obtain⟨a0,d,c⟩:=hown.keysOf;injection d with d;subst d;refine List.pairwise_map.2 ((List.Pairwise.and_mem.1 i).imp ?_);rintro p q ⟨hp,hq,e⟩ he;obtain⟨v,hv⟩:=c p hp;obtain⟨u,hu⟩:=c q hq;obtain⟨y,_,hy,_⟩:=Maps.keyOf_i64 underlying2 hv;obtain⟨z,_,hz,_⟩:=Maps.keyOf_i64 underlying2 hu;rw[hy,hz]at e he;exact e (by rw[show y=z from he])
 refine(List.perm_ext_iff_of_nodup hk.1 h).2 fun x=> ?_
 rw[g];constructor
 ·intro hx;have a:=hk.2.1 x hx;exact⟨a,by show has D (NK.lk x)=true;rw[(hf x a).1];exact(hk.2.2 x a).1 hx⟩
 rintro⟨a,hh⟩;exact(hk.2.2 x a).2 (by rw[←(hf x a).1];exact hh)
variable {Sb base:Nat} {m:KY} {s:QM}
theorem TV(h:QO w base Sb s m)(hs:Yx s.notes)(hr:∀x∈s.notes,Qs x.1=true∧x.2.length≤3000)(hl:s.notes.length≤1000000):
  Calls prog 36 #[.pointer (some ⟨Sb,0,none⟩)] w fun e w'=>∃A c,e=.returned (.slice A s.notes.length c)∧w'.ownsRow w.heap.size 2 1 (.slice A s.notes.length c) s.notes.length (J8 (s.notes.map (·.1)))∧Below w.heap.size w w':=by
 have hk:=OQ hs hr;obtain⟨D,a,hf⟩:=h.OG;have hp:=To a hf hk;have k:Maps.size D≤1000000:=by rw[KV.size a hf hk,List.length_map];exact hl
 have i:=a.lt
 have d:SeqGives Fence.wide 2 prog 152 #[.pointer (some ⟨w.heap.size,0,none⟩)] encZ (fun ss=>ss.Perm (intKeys D)) (Maps.size D) (w.alloc (.cells #[.map (some m.Nb)] 124)):=
  AnyZI.keys_gives (ρ:=Tryz.TS) { Tryz.Ca with } Fence.wide _ trivial rfl (by omega) w.heap.size m.Nb _ D _ (by simp) (by simp) (by
   obtain⟨es,f,hb,Ft,hs,hD⟩:=a;exact⟨es,f,(Below.heap_alloc _ _ m.Nb i).trans hb,Ft,hs,hD⟩)
 have cS:=AnyZI.sorted_in Tryz.DQ Fence.wide 5 trivial trivial trivial trivial rfl (by omega) (CL _) (enters_of func151 (by kernel_rfl) rfl) 152 #[.pointer (some ⟨w.heap.size,0,none⟩)] trivial (enters_of func152 (by kernel_rfl) rfl) _ _ (by unfold maxLen;omega) (by omega) _ d;change CallsIn _ _ prog 90 _ _ _ at cS;have HS:Qb (Calls prog 90 #[.func (.func 152) #[] #[.pointer (some ⟨w.heap.size,0,none⟩)]] (w.alloc (.cells #[.map (some m.Nb)] 124)) fun e w'=>∃A c,e=.returned (.slice A s.notes.length c)∧w'.ownsRow w.heap.size 2 1 (.slice A s.notes.length c) s.notes.length (J8 (s.notes.map (·.1)))∧Below w.heap.size w w'):=by
  refine((callsIn_wide (n:=5)).1 cS).mono ?_;rintro e w' ⟨v,ss,rfl,hS,b,a0,hb⟩;have g:=hS.trans hp.symm;have j:ss.length=s.notes.length:=by rw[g.length_eq,List.length_map]
  rw[Lj hs g,j]at b;obtain⟨A,c,rfl,_⟩:=Jg b;exact⟨A,c,rfl,Xe b (by simp),((Below.refl _ w).alloc nR _).trans (hb.mono (by simp))⟩
 have HK:=Qa (Td (some m.Nb) w);have c4:w.cell? ⟨Sb,4,none⟩=some (.map (some m.Nb)):=h.blk.cell 4;have a1:=h.blk.lt;clear h hs hr hk a hf hp k i d cS;go_enter func36,ntmps36
 go_wp2_with (first
  |(go_at_call 91;refine HK.o.mono ?_;rintro e w' ⟨rfl,rfl⟩)
  |(go_at_call 90;refine HS.o.mono ?_;rintro e w2 ⟨A,c,rfl,ho,hb⟩;(have HO:=Qa ho);(have HB:=Qa hb);clear ho hb))
 go_ret;exact⟨A,c,rfl,HO.o,HB.o⟩
theorem KR(n:Int)(w:World):Calls prog 104 #[.int .i64 n] w fun e w'=>e=.returned (.bool (Qs n))∧w=w':=by
 by_cases h0:0≤n
 ·go_enter func104,ntmps104;go_wp2_with fail;go_ret;exact⟨UG (by unfold Qs;simp[h0]),rfl⟩
 go_enter func104,ntmps104;go_wp2_with fail;go_ret;exact⟨UG (by unfold Qs;simp[show ¬0≤n by omega]),rfl⟩
end Go.Proofs.YtmgmfnimaafkdaaGreatDoor
namespace Go.Proofs.YtmgmfnimaafkdaaGreatDoor
open Tryz
open Go.RowKit Go.Maps
def Kz(w w':World)(r:QN)(e:Ending):Prop:=(∃A c,e=.returned (.agg #[.int .u8 r.1,.slice A r.2.length c])∧Kb w' A r.2∧r.2.length≤c)∧Below w.heap.size w w'
theorem UA(w:World)(t:List UInt8):∃c w',(convert 9 43 (Qw t)).run prog w=.ok (.slice (some ⟨w.heap.size,0,none⟩) t.length c) w'∧Kb w' (some ⟨w.heap.size,0,none⟩) t∧t.length≤c∧Below w.heap.size w w'∧w'.heap.size=w.heap.size+1:=by
 have hs:(⟨t.toArray⟩:ByteArray).size=t.length:=by simp[ByteArray.size]
 have h:=Lib.run_convert_string_bytes (P:=prog) w 9 43 5 ⟨t.toArray⟩ underlying9 VI underlying5;rw[hs]at h;refine⟨_,_,h,⟨⟨by simp,fun _=>⟨w.heap.size,0,rfl,by rw[Lib.bytesWorld_size];omega,fun j hj=> ?_⟩⟩,fun _ a ha=> ?_⟩,grownCap_ge _ _ _ _,⟨?_, ?_, ?_,by rw[Lib.bytesWorld_size];omega,fun k hk=>Lib.bytesWorld_at_old _ _ _ _ hk⟩,Lib.bytesWorld_size _ _ _⟩
 ·rw[List.length_map]at hj;have:=Lib.bytesWorld_cell w 5 ⟨t.toArray⟩ (0+j) (by rw[hs];omega);rw[this];simp[Ks,List.getD,hj]
 ·injection ha with ha;subst ha;unfold VG;rw[Lib.bytesWorld_at_new]
 all_goals (unfold Lib.bytesWorld World.freeze;rfl)
theorem L7:(prog.info? 137).map (·.size)=some 2:=by kernel_rfl
variable {w:World}
theorem VA(kd:Nat)(t:List UInt8):Calls prog 71 #[.int .u8 kd,Qw t] w fun e w'=>Kz w w' (kd,t) e:=by
 have h:Below w.heap.size w (w.alloc (.cells #[.int .u8 0,.slice none 0 0] 137)):=bR.alloc nR _;have j:=Qh.new w 137 #[.int .u8 0,.slice none 0 0];have f:=Qa h;have i:=Qa j;clear h j;go_enter func71,ntmps71;go_upto_region 1 with fail;generalize w.alloc (.cells #[.int .u8 0,.slice none 0 0] 137)=w1 at*
 obtain⟨c,w2,l,p,hc,b,a1⟩:=UA w1 t;have a0:=Qa l;have a:=i.o.below b i.o.lt;have n:=a.cell 0;have r:=a.cell 1;have m:=a.free 0;have q:=a.free 1;have d:=Qa a;have k:Qb ((prog.info? 137).map (·.size)=some (#[.int .u8 kd,.slice (some ⟨w1.heap.size,0,none⟩) t.length c]:Array Value).size):=L7;have H1:Qb ((#[.int .u8 kd,.slice (some ⟨w1.heap.size,0,none⟩) t.length c]:Array Value).all (·.oneCell')=true):=by
  show(#[.int .u8 kd,.slice (some ⟨w1.heap.size,0,none⟩) t.length c]:Array Value).all (·.oneCell')=true;simp[Value.oneCell']
 clear a n r m q;go_wp2_with (refine wpList_store_row rfl 137 _ _ rfl w.heap.size #[.int .u8 kd,.slice (some ⟨w1.heap.size,0,none⟩) t.length c] rfl rfl 137 #[.int .u8 0,.slice none 0 0] d.o k.o rfl H1.o ?_);refine bodyPost_ret (v:=.agg #[.int .u8 kd,.slice (some ⟨w1.heap.size,0,none⟩) t.length c]) (results_cell_row results71 _ _ w.heap.size 137 _ (0,0) _ rfl (Qp d.o _) underlying137 rfl k.o) rfl ?_;have hk:Qd w2.heap.size [137] w2 (w2.setRow w.heap.size #[.int .u8 kd,.slice (some ⟨w1.heap.size,0,none⟩) t.length c])→True:=fun _=>trivial
 refine⟨⟨_,_,rfl, ?_,hc⟩,(f.o.trans (b.mono f.o.size)).trans (Qg (Qm _ _ _) (by have:=f.o.size;have:=b.size;omega) (gB (by omega)))⟩
 have k2:Qd 0 [137] w2 (w2.setRow w.heap.size #[.int .u8 kd,.slice (some ⟨w1.heap.size,0,none⟩) t.length c]):=
  Qd.JY (Qm _ _ _) (Nat.zero_le _) fun g hg=>⟨Nat.zero_le _,fun t ht=>by injection hg with hg;subst hg;rw[d.o.ty]at ht;injection ht with ht;simp[←ht]⟩
 exact p.keeps k2 (by decide)
theorem IT(x:Qx)(n:Qj)(ht:Tb w)(hn:∀y∈[n.1,n.2,x.at',(x.bytes:Int),x.mark],-9223372036854775808≤y∧y≤9223372036854775807):
  Calls prog 109 #[Kv x,QZ n] w fun e w'=>Kz w w' (Ka n x) e:=by
 have HN:=Qa hn;have HT:=Qa ht;have HW:=Qa (fun (wy:World) A c (h:Rd wy wy.heap.size 1 A 5 (J8 [n.1,n.2,x.at',(x.bytes:Int),x.mark])) (ht:Tb wy)=>XC [n.1,n.2,x.at',(x.bytes:Int),x.mark] A c h (by simp) hn ht);have HR:=Qa (fun wy=>VA (w:=wy) 83 (Qi [n.1,n.2,x.at',(x.bytes:Int),x.mark]));have HE:Qb (Ka n x=(83,Qi [n.1,n.2,x.at',(x.bytes:Int),x.mark])):=show Ka n x=(83,Qi [n.1,n.2,x.at',(x.bytes:Int),x.mark])from rfl;clear hn ht;obtain⟨at',len,bytes,mark⟩:=x;obtain⟨v,no⟩:=n;simp only at HN HW HR HE;generalize Qi [v,no,at',(bytes:Int),mark]=tx at*
 rw[HE.o];unfold Kv QZ;simp only;have i:Below w.heap.size w (((w.alloc (.cells #[.int .i64 at',.int .i64 len,.int .i64 bytes,.int .i64 mark] 142)).alloc (.cells #[.int .i64 v,.int .i64 no] 73)).alloc (.cells #[.int .u8 0,.slice none 0 0] 137)):=((bR.alloc nR _).alloc (by simp) _).alloc (by simp;omega) _;have h2:Qh (((w.alloc (.cells #[.int .i64 at',.int .i64 len,.int .i64 bytes,.int .i64 mark] 142)).alloc (.cells #[.int .i64 v,.int .i64 no] 73)).alloc (.cells #[.int .u8 0,.slice none 0 0] 137)) w.heap.size 142 #[.int .i64 at',.int .i64 len,.int .i64 bytes,.int .i64 mark]:=((Qh.new _ _ _).alloc _).alloc _;have h3:Qh (((w.alloc (.cells #[.int .i64 at',.int .i64 len,.int .i64 bytes,.int .i64 mark] 142)).alloc (.cells #[.int .i64 v,.int .i64 no] 73)).alloc (.cells #[.int .u8 0,.slice none 0 0] 137)) (w.heap.size+1) 73 #[.int .i64 v,.int .i64 no]:=(Qh.Qz (by simp)).alloc _;have h4:Qh (((w.alloc (.cells #[.int .i64 at',.int .i64 len,.int .i64 bytes,.int .i64 mark] 142)).alloc (.cells #[.int .i64 v,.int .i64 no] 73)).alloc (.cells #[.int .u8 0,.slice none 0 0] 137)) (w.heap.size+1+1) 137 #[.int .u8 0,.slice none 0 0]:=Qh.Qz (by simp);have l:=Qa i;have H4:=Qa h4;have HZ:Qb ((((w.alloc (.cells #[.int .i64 at',.int .i64 len,.int .i64 bytes,.int .i64 mark] 142)).alloc (.cells #[.int .i64 v,.int .i64 no] 73)).alloc (.cells #[.int .u8 0,.slice none 0 0] 137)).heap.size=w.heap.size+3):=by
  show(((w.alloc (.cells #[.int .i64 at',.int .i64 len,.int .i64 bytes,.int .i64 mark] 142)).alloc (.cells #[.int .i64 v,.int .i64 no] 73)).alloc (.cells #[.int .u8 0,.slice none 0 0] 137)).heap.size=w.heap.size+3;simp
 clear i h4;go_enter func109,ntmps109;go_upto_region 1 with fail;generalize ((w.alloc (.cells #[.int .i64 at',.int .i64 len,.int .i64 bytes,.int .i64 mark] 142)).alloc (.cells #[.int .i64 v,.int .i64 no] 73)).alloc (.cells #[.int .u8 0,.slice none 0 0] 137)=w1 at*
 have a0:w1.cell? ⟨w.heap.size,0,none⟩=some (.int .i64 at'):=h2.cell 0;have a2:w1.cell? ⟨w.heap.size,2,none⟩=some (.int .i64 bytes):=h2.cell 2;have a3:w1.cell? ⟨w.heap.size,3,none⟩=some (.int .i64 mark):=h2.cell 3;have b0:w1.cell? ⟨w.heap.size+1,0,none⟩=some (.int .i64 v):=h3.cell 0;have b1:w1.cell? ⟨w.heap.size+1,1,none⟩=some (.int .i64 no):=h3.cell 1;have l2:=h2.lt;have l3:=h3.lt;clear h2 h3;have u:Below w1.heap.size w1 (w1.alloc (.cells #[.int .i64 v,.int .i64 no,.int .i64 at',.int .i64 bytes,.int .i64 mark] 2)):=bR.alloc nR _;have d:=Qa (l.o.trans (u.mono l.o.size))
 have HX:Qb (Rd (w1.alloc (.cells #[.int .i64 v,.int .i64 no,.int .i64 at',.int .i64 bytes,.int .i64 mark] 2)) (w1.alloc (.cells #[.int .i64 v,.int .i64 no,.int .i64 at',.int .i64 bytes,.int .i64 mark] 2)).heap.size 1 (some ⟨w1.heap.size,0,none⟩) 5 (J8 [v,no,at',(bytes:Int),mark])):=
  show Rd (w1.alloc (.cells #[.int .i64 v,.int .i64 no,.int .i64 at',.int .i64 bytes,.int .i64 mark] 2)) (w1.alloc (.cells #[.int .i64 v,.int .i64 no,.int .i64 at',.int .i64 bytes,.int .i64 mark] 2)).heap.size 1 (some ⟨w1.heap.size,0,none⟩) 5 (J8 [v,no,at',(bytes:Int),mark])from(Sl.Ja (Qh.new w1 2 _) rfl).1
 have q:=Qa (H4.o.alloc (.cells #[.int .i64 v,.int .i64 no,.int .i64 at',.int .i64 bytes,.int .i64 mark] 2));clear u
 go_wp2_with (first
  |(go_at_call 123;refine(HW.o _ _ _ HX.o (HT.o.below d.o)).mono ?_;rintro en w2 ⟨rfl,b⟩;(have p:=Qa (d.o.trans (b.mono d.o.size)));(have j:=Qa (q.o.below b q.o.lt));clear b)
  |(go_at_call 71;refine(HR.o _).mono ?_;rintro en w3 ⟨⟨A,c,rfl,k,m⟩,f⟩;(have B:=Qa k);(have r:=Qa (p.o.trans (f.mono p.o.size)));(have a:=Qa (j.o.below f j.o.lt));(have z:=Qa m);clear k f m;(have s:Qb ((prog.info? 137).map (·.size)=some (#[.int .u8 83,.slice A tx.length c]:Array Value).size):=L7);(have H1:Qb ((#[.int .u8 83,.slice A tx.length c]:Array Value).all (·.oneCell')=true):=Qa (by simp[Value.oneCell'])))
  |(refine wpList_store_row rfl 137 _ _ rfl (w.heap.size+1+1) #[.int .u8 83,.slice A tx.length c] rfl rfl 137 #[.int .u8 0,.slice none 0 0] a.o s.o rfl H1.o ?_))
 refine bodyPost_ret (v:=.agg #[.int .u8 83,.slice A tx.length c]) (results_cell_row results109 _ _ (w.heap.size+1+1) 137 _ (0,0) _ rfl (Qp a.o _) underlying137 rfl s.o) rfl ?_;refine⟨⟨_,_,rfl, ?_,z.o⟩,r.o.trans (Qg (Qm _ _ _) r.o.size (gB (by omega)))⟩
 have k2:Qd 0 [137] w3 (w3.setRow (w.heap.size+1+1) #[.int .u8 83,.slice A tx.length c]):=
  Qd.JY (Qm _ _ _) (Nat.zero_le _) fun g hg=>⟨Nat.zero_le _,fun t ht=>by injection hg with hg;subst hg;rw[a.o.ty]at ht;injection ht with ht;simp[←ht]⟩
 exact B.o.keeps k2 (by decide)
end Go.Proofs.YtmgmfnimaafkdaaGreatDoor
namespace Go.Proofs.YtmgmfnimaafkdaaGreatDoor
open Tryz
open Go.RowKit Go.Maps Go.Shelf
def VZ(n:Int × List UInt8):QN:=(78,Qi [n.1]++32::n.2)
theorem Vd(s:QM):Qn s=s.notes.map VZ++s.Qc.map (fun n=>Ka n.1 n.2)++s.marks.map (fun m=>(77,m)):=rfl
structure MF (s:QM):Prop where
 Vn:Xa s.Qc
 num:∀x∈s.Qc,Kf x∧x.2.len≤1048576
 VL:Yx s.notes
 Xv:∀x∈s.notes,Qs x.1=true∧x.2.length≤3000
 Xk:∀x∈s.marks,x.length≤3000
 nS:s.Qc.length≤100001
 nN:s.notes.length≤100001
 nM:s.marks.length≤100001
variable {s:QM}
theorem XA.l(h:XA s):MF s:=⟨h.Vn,h.num,h.VL,h.Xv,h.Xk,by have:=h.nS;omega,by have:=h.nN;omega,by have:=h.nM;omega⟩
theorem MF.YG(h:MF s)(d:Qq)(l:QD):MF { s with d:=d,log:=l }:=⟨h.Vn,h.num,h.VL,h.Xv,h.Xk,h.nS,h.nN,h.nM⟩
structure Xg (w wr:World) (rs:List QN) (j:Nat) (L:List Kx) (out:Value):Prop where
 rcs:L.map (·.1)=rs.take j
 len:L.length=j
 own:wr.ownsRow w.heap.size 137 2 out j (QI L)
 OM:Yj wr L
 below:Below w.heap.size w wr
theorem Xg.start(w:World)(rs:List QN):Xg w w rs 0 [] (.slice none 0 0):=⟨rfl,rfl,World.ownsRow_nil _ _ _ _,(fun x hx=>by cases hx),bR⟩
variable {j:Nat} {out:Value} {rs:List QN} {w w' wr:World}
theorem Xg.keep{L:List Kx}(h:Xg w wr rs j L out)(hb:Below wr.heap.size wr w'):Xg w w' rs j L out:=
 ⟨h.rcs,h.len,QF h.own (ts:=[]) (Qd.Qe (base:=0) hb (Nat.zero_le _)) (by simp),h.OM.below hb,h.below.trans (hb.mono h.below.size)⟩
variable {A A2:Option Addr} {bs:List UInt8} {c c2 kd:Nat} {w3 w4:World}
theorem Xg.push{L:List Kx}(h:Xg w wr rs j L out)(hj:rs[j]? =some (kd,bs))(hb:Below wr.heap.size wr w3)(hby:Kb w3 A bs)(hc:bs.length≤c)(hk:kd<256)(hbl:bs.length<1099511627776)
  (hown:w4.ownsRow w.heap.size 137 2 (.slice A2 (j+1) c2) (j+1) (QI L++[.int .u8 kd,.slice A bs.length c]))(hgr:w3.grownBy w4 out.ownBlock):Xg w w4 rs (j+1) (L++[((kd,bs),A,c)]) (.slice A2 (j+1) c2):=by
 have h3:=h.keep hb;have a:Qd w.heap.size [137] w3 w4:=Q7 h3.own hgr (by have:=h3.below.size;omega);obtain⟨d,b⟩:=List.getElem?_eq_some_iff.1 hj;refine⟨?_,by rw[List.length_append,h.len];rfl, ?_, ?_,h3.below.trans a.below⟩
 ·rw[List.map_append,h.rcs,List.take_succ_eq_append_getElem d,b];rfl
 ·rw[KU];exact hown
 intro z hz;rcases List.mem_append.1 hz with hz|hz
 ·exact(h3.OM.keeps a (by decide)) z hz
 rw[List.mem_singleton]at hz;subst hz;exact⟨hby.keeps a (by decide),hc,hk,hbl⟩
theorem VX{κ α:Type}[DecidableEq κ]{x:κ}{v:α}:∀{l:List (κ × α)},(l.map (·.1)).Nodup→(x,v)∈l→QC l x=some v
 |[],_,h=>by cases h
 |(a,u)::l,hn,h=>by
  rw[Jd];rw[List.map_cons,List.nodup_cons]at hn;rcases List.mem_cons.1 h with h|h
  ·injection h with h1 h2;subst h1;subst h2;simp
  rw[if_neg (fun e=>hn.1 (by rw[←e];exact List.mem_map.2 ⟨_,h,rfl⟩))];exact VX hn.2 h
variable {n:Nat}
theorem Re{l:List Qj}(h:Sl w 73 2 A n (QV l))(i:Nat)(hi:i<l.length)(hn:n=l.length):∃b o,A=some ⟨b,o,none⟩∧b<w.heap.size∧w.cell? ⟨b,o+i*2,none⟩=some (.int .i64 l[i].1)∧w.cell? ⟨b,o+i*2+1,none⟩=some (.int .i64 l[i].2):=by
 obtain⟨b,o,rfl,hb,hc⟩:=h.1.2 (by omega);have hp:=Vf (fun x:Qj=>Value.int .i64 x.1) (fun x=>.int .i64 x.2) l i hi;obtain⟨p1,p2⟩:=hp;have l1:i*2<(QV l).length:=by rw[Ki];omega
 have l2:i*2+1<(QV l).length:=by rw[Ki];omega
 refine⟨b,o,rfl,hb, ?_, ?_⟩
 ·rw[hc _ l1,←p1];exact(List.getElem?_eq_getElem l1).symm
 rw[Nat.add_assoc,hc _ l2,←p2];exact(List.getElem?_eq_getElem l2).symm
variable {Sb base:Nat} {m:KY}
theorem Z0(h:QO w base Sb s m)(ok:MF s):
  Calls prog 64 #[.pointer (some ⟨Sb,0,none⟩)] w fun e w'=>∃L A c,e=.returned (.slice A (Qn s).length c)∧Xg w w' (Qn s) (Qn s).length L (.slice A (Qn s).length c):=by
 have HH:=Qa h;have HK:=Qa ok;obtain⟨i0,af,ak,am,al⟩:=info_parts Wv;obtain⟨rs,ao⟩:=eX (Qn s);have ap:rs=s.notes.map VZ++s.Qc.map (fun n=>Ka n.1 n.2)++s.marks.map (fun m=>(77,m)):=by rw[ao,Vd]
 have Z:=Qa ap;rw[←ao];obtain⟨nN,a7⟩:=eX s.notes.length;have b8:nN≤100001:=by rw[a7];exact ok.nN
 have aX:=@Qa (Calls prog 36 #[.pointer (some ⟨Sb,0,none⟩)] w fun e w'=>∃A c,e=.returned (.slice A nN c)∧w'.ownsRow w.heap.size 2 1 (.slice A nN c) nN (J8 (s.notes.map (·.1)))∧Below w.heap.size w w') (by rw[a7];exact TV h ok.VL ok.Xv (by have:=ok.nN;omega));have Y:=Qa a7;clear h ok ao ap a7;go_enter func64,ntmps64;go_wp2_with (go_at_call 36;refine aX.o.mono ?_;rintro e w1 ⟨A1,c1,rfl,az,ay⟩;(have aM:=Qa az);(have aO:=Qa ay);clear az ay);go_loopw [3,13] (fun out i wr=>∃(k:Nat)(L:List Kx),k≤nN∧i=.int .i64 (k:Nat)∧Xg w wr rs k L out∧Qd w.heap.size [137] w1 wr) (fun _ i _=>nN-(intOf i).toNat)
 case atStart=>exact⟨0,[],Nat.zero_le _,rfl,(Xg.start w rs).keep aO.o,Qd.refl _ _ _⟩
 obtain⟨k,L,hk,rfl,hR,ab⟩:=hrel;have HR:=Qa hR;have q:=Qa ab;have f:=hR.below.size;clear hR ab;by_cases hkl:k<nN
 ·have aA:(k:Int)<nN:=by omega
  have R:k<s.notes.length:=by rw[←Y.o];exact hkl
  obtain⟨b,o,hA,X,hc⟩:=((Sl.Jl aM.o).keeps q.o (by decide)).1.2 (by omega);have aJ:wr.cell? ⟨b,o+k,none⟩=some (.int .i64 s.notes[k].1):=by
   have:=hc k (by unfold J8;simpa using R);rw[this];simp[J8]
  have E:QC s.notes s.notes[k].1=some s.notes[k].2:=VX HK.o.VL.nodup (List.getElem_mem R);have T:=HK.o.Xv _ (List.getElem_mem R);have Q:rs[k]? =some (VZ s.notes[k]):=by
   rw[Z.o,List.append_assoc,List.getElem?_append_left (by simpa using R)];simp[R]
  subst hA;generalize s.notes[k]=x at*
  obtain⟨v,t⟩:=x;simp only at aJ E T Q;unfold VZ at Q;simp only at Q;have ai: -9223372036854775808≤v∧v≤9223372036854775807:=by
   have:=T.1;unfold Qs at this;simp only[Bool.and_eq_true,decide_eq_true_eq]at this;omega
  have G:=KX [v] (by simpa using ai)
  -- the strings, named
  obtain⟨z0,q0⟩:∃z0:ByteArray,Qw (Qi [v])=.string z0:=⟨_,rfl⟩;obtain⟨tb,qt⟩:∃tb:ByteArray,Qw t=.string tb:=⟨_,rfl⟩;obtain⟨z1,q1⟩:∃z1:ByteArray,z0++⟨#[32]⟩=z1:=⟨_,rfl⟩;obtain⟨z2,q2⟩:∃z2:ByteArray,z1++tb=z2:=⟨_,rfl⟩;have S:z0=⟨(Qi [v]).toArray⟩:=by unfold Qw at q0;injection q0 with q0;exact q0.symm
  have K:tb=⟨t.toArray⟩:=by unfold Qw at qt;injection qt with qt;exact qt.symm
  have a9:Value.string z2=Qw (Qi [v]++32::t):=by
   rw[←q2,←q1,S,K];unfold Qw;congr 1;apply ByteArray.ext;simp
  have s0:z0.size≤22:=by rw[S];simpa [ByteArray.size]using G
  have st:tb.size≤3000:=by rw[K];simpa [ByteArray.size]using T.2
  have s1:z1.size=z0.size+1:=by rw[←q1,ByteArray.size_append];rfl
  have b1:¬(9223372036854775807<z0.size+1):=by omega
  have b2:¬(9223372036854775807<z1.size+tb.size):=by omega
  have SK:=@Qa (∀wy,Qd w.heap.size [137] wr wy→wy.cell? ⟨Sb,4,none⟩=some (.map (some m.Nb))∧(Instr.lookup 124 (.map (some m.Nb)) (.int .i64 v) false).run prog wy=.ok (.string tb) wy) (fun wy hy=>by
   have hh:=HH.o.below (HR.o.below.trans hy.below);refine⟨hh.blk.cell 4, ?_⟩;have:=hh.OG.look (x:=v) (SA ai);rw[E]at this;rw[←qt];exact this)
  have S0:=Qa (SK.o _ (Qd.Qe bR.drew f))
  have aZ:=@Qa (∀wy,Below wr.heap.size wr wy→Calls prog 123 #[.slice (some ⟨wy.heap.size,0,none⟩) 1 1] (wy.alloc (.cells #[.int .i64 v] 2)) fun e w'=>e=.returned (.string z0)∧Below wy.heap.size wy w') (fun wy hy=>by
   have h1:Below wy.heap.size wy (wy.alloc (.cells #[.int .i64 v] 2)):=bR.alloc nR _;have:=XC (w:=wy.alloc (.cells #[.int .i64 v] 2)) [v] (some ⟨wy.heap.size,0,none⟩) 1 (Sl.Ja (Qh.new wy 2 _) rfl).1 (by simp) (by simpa using ai) ((HH.o.below (HR.o.below.trans (hy.mono f))).Rn.tb.below h1);rw[q0]at this;exact this.mono fun e w' ⟨he,hb⟩=>⟨he,h1.trans (hb.mono h1.size)⟩)
  have ag:=@Qa (∀wy,Calls prog 71 #[.int .u8 78,.string z2] wy fun e w'=>Kz wy w' (78,Qi [v]++32::t) e) (fun wy=>by
   have:=VA (w:=wy) 78 (Qi [v]++32::t);rw[←a9]at this;exact this)
  have aQ:=Qa Q;have ad:Qb ((Qi [v]++32::t).length<1099511627776):=by
   show(Qi [v]++32::t).length<1099511627776;have:=T.2;simp only[List.length_append,List.length_cons,List.length_nil]at G ⊢;omega
  clear E Q S K a9 q0 qt T G hc s0 st s1;generalize Qi [v]++32::t=bs at*
  obtain⟨O,cO,rfl,I⟩:=Jg HR.o.own;go_upto_region 5 with fail
  go_region_held3 (fun wy=>wy.cell? ⟨Sb,4,none⟩=some (.map (some m.Nb))∧(Instr.lookup 124 (.map (some m.Nb)) (.int .i64 v) false).run prog wy=.ok (.string tb) wy)
   (first|exact SK.o _ M.o|exact SK.o _ (Qd.Qe (d.o.alloc d.o.size _) f)|exact SK.o _ (Qd.Qe d.o f)|exact SK.o _ (Qd.Qe J.o f)|exact SK.o _ (Qd.Qe (bR.drew.alloc nR _) f)|exact S0.o)
   (first
    |(go_at_call 123;refine(aZ.o _ bR.drew).mono ?_;rintro en w2 ⟨rfl,W⟩;(have J:Qb (Below wr.heap.size wr w2):=bR.drew.trans W);clear W)
    |(go_at_call 71;refine(ag.o _).mono ?_;rintro en w3 ⟨⟨A3,c3,rfl,C,z⟩,r⟩;(have P:=Qa C);(have N:=Qa z);(have d:Qb (Below wr.heap.size wr w3):=J.o.trans (r.mono J.o.size));(have aE:w.heap.size≤w3.heap.size:=Nat.le_trans f d.o.size);(have D:=Qa (Qu ((HR.o.keep d.o).own) (.cells #[.int .u8 78,.slice A3 bs.length c3] 137)));(have V:=Qa (Kq (Sl.Ja (sz:=2) (n:=1) (Qh.new w3 137 [.int .u8 78,.slice A3 bs.length c3].toArray) rfl)));(have U:=@Qa (∀u∈([.int .u8 78,.slice A3 bs.length c3]:List Value),u.oneCell'=true) (by simp[Value.oneCell']));clear C r z)
    |(refine Q9 _ (by rfl) _ _ _ (by rfl) w.heap.size 137 i0 _ 2 32 YX af ak am al rfl (by decide) (.slice O k cO) k (QI L) (by rfl) D.o (some ⟨w3.heap.size,0,none⟩) 1 1 _ [.int .u8 78,.slice A3 bs.length c3] (by rfl) V.o U.o (by unfold maxLen;omega) (by omega) (by simp;omega) ?_;intro A4 c4 w4 hown4 hgr4 hnc4;(have g:=Qa hown4);(have B:=Qa hgr4);(have M:Qb (Qd w.heap.size [137] wr w4):=(Qd.Qe (d.o.alloc d.o.size _) f).trans (Q7 D.o hgr4 (by simp;omega)));clear hown4 hgr4))
  all_goals
   go_wp2_with fail;go_roundw
   case rel=>exact⟨k+1,_,by omega,by simp,HR.o.push aQ.o (d.o.alloc d.o.size _) (P.o.below (bR.alloc nR _)) N.o (by decide) ad.o g.o B.o,q.o.trans M.o⟩
   case measure=>simp[intOf];omega
 have aL:k=nN:=by omega
 subst aL;have aA:¬(k:Int)<k:=by omega
 obtain⟨nS,a8⟩:=eX s.Qc.length;have b5:nS≤100001:=by rw[a8];exact HK.o.nS
 have aN:=@Qa (Calls prog 35 #[.pointer (some ⟨Sb,0,none⟩)] wr fun e w'=>∃A c,e=.returned (.slice A nS c)∧w'.ownsRow wr.heap.size 73 2 (.slice A nS c) nS (QV (s.Qc.map (·.1)))∧Below wr.heap.size wr w') (by rw[a8];exact Ow (HH.o.below HR.o.below) HK.o.Vn HK.o.num (by have:=HK.o.nS;omega));have F:=Qa a8;clear a8;obtain⟨O,cO,rfl,I⟩:=Jg HR.o.own;go_wp2_with (go_at_call 35;refine aN.o.mono ?_;rintro e w2 ⟨A2,c2,rfl,aw,W⟩;(have aR:=Qa aw);(have J:=Qa W);clear aw W);have b7:w.heap.size≤w2.heap.size:=Nat.le_trans f J.o.size;go_loopw [3,36] (fun out i w5=>∃(j:Nat)(L2:List Kx),j≤nS∧i=.int .i64 (j:Nat)∧Xg w w5 rs (k+j) L2 out∧Qd w.heap.size [137] w2 w5) (fun _ i _=>nS-(intOf i).toNat)
 case atStart=>exact⟨0,L,Nat.zero_le _,rfl,HR.o.keep J.o,Qd.refl _ _ _⟩
 clear HR q f I;obtain⟨j,L2,hj,rfl,hR,aa⟩:=hrel;have HR:=Qa hR;have q:=Qa aa;have f:=hR.below.size;clear hR aa;by_cases hjl:j<nS
 ·have aF:(j:Int)<nS:=by omega
  have H:j<s.Qc.length:=by rw[←F.o];exact hjl
  obtain⟨b,o,hA,X,ac,an⟩:=Re ((Sl.Jl aR.o).keeps q.o (by decide)) j (by rw[List.length_map];exact H) (by rw[List.length_map];exact F.o);have E:QC s.Qc s.Qc[j].1=some s.Qc[j].2:=VX HK.o.Vn.nodup (List.getElem_mem H);have l:=HK.o.num _ (List.getElem_mem H);have ae:rs[k+j]? =some (Ka s.Qc[j].1 s.Qc[j].2):=by
   have ah:(s.notes.map VZ).length=k:=by rw[List.length_map];exact Y.o.symm
   rw[Z.o,List.append_assoc,List.getElem?_append_right (by omega),ah,Nat.add_sub_cancel_left,List.getElem?_append_left (by simpa using H)];simp[H]
  have e1:(s.Qc.map (·.1))[j]'(by rw[List.length_map];exact H)=s.Qc[j].1:=by simp
  rw[e1]at ac an;subst hA;clear e1;generalize s.Qc[j]=y at*
  obtain⟨⟨n1,n2⟩,x⟩:=y;simp only at ac an E l ae;have aj:∀y∈[n1,n2,x.at',(x.bytes:Int),x.mark],-9223372036854775808≤y∧y≤9223372036854775807:=by
   obtain⟨⟨a1,a2,a3,a4,a5,a6⟩,_⟩:=l;unfold Qs at a1 a2;simp only[Bool.and_eq_true,decide_eq_true_eq]at a1 a2 a3 a4 a5 a6;intro y hy;simp only[List.mem_cons,List.not_mem_nil,or_false]at hy;rcases hy with rfl|rfl|rfl|rfl|rfl<;>omega
  have G:=KX _ aj;have ar:TQ (n1,n2):=⟨Q8 l.1.1,Q8 l.1.2.1⟩;have aV:=@Qa (∀wy,Below w.heap.size w wy→Calls prog 109 #[Kv x,.agg #[.int .i64 n1,.int .i64 n2]] wy fun e w'=>Kz wy w' (83,Qi [n1,n2,x.at',(x.bytes:Int),x.mark]) e) (fun wy hy=>IT x (n1,n2) (HH.o.below hy).Rn.tb aj);have aH:Qb (rs[k+j]? =some (83,Qi [n1,n2,x.at',(x.bytes:Int),x.mark])):=ae;have ad:Qb ((Qi [n1,n2,x.at',(x.bytes:Int),x.mark]).length<1099511627776):=by
   show(Qi [n1,n2,x.at',(x.bytes:Int),x.mark]).length<1099511627776;simp only[List.length_cons,List.length_nil]at G;omega
  have SK:=@Qa (∀wy,Qd w.heap.size [137] (wr.alloc (.cells #[.int .i64 n1,.int .i64 n2] 73)) wy→wy.cell? ⟨Sb,5,none⟩=some (.map (some m.Pb))∧(wy.cell? ⟨wr.heap.size,0,none⟩=some (.int .i64 n1)∧wy.cell? ⟨wr.heap.size,1,none⟩=some (.int .i64 n2))∧(Instr.lookup 125 (.map (some m.Pb)) (.agg #[.int .i64 n1,.int .i64 n2]) false).run prog wy=.ok (Kv x) wy) (fun wy hy=>by
   have hh:=HH.o.below ((HR.o.below.alloc f _).trans hy.below);have hx:=(Qh.new wr 73 #[.int .i64 n1,.int .i64 n2]).keeps hy (by decide);refine⟨hh.blk.cell 5,⟨hx.cell 0,hx.cell 1⟩, ?_⟩;have:=hh.pmap.look (x:=(n1,n2)) ar;rw[E]at this;exact this)
  have aU:(wr.alloc (.cells #[.int .i64 n1,.int .i64 n2] 73)).heap.size=wr.heap.size+1:=by simp
  have a0:=Qa (HR.o.keep (bR.alloc nR (.cells #[.int .i64 n1,.int .i64 n2] 73)));have aC:=Qa (q.o.trans (Qd.Qe (base:=w.heap.size) (ts:=[137]) (bR.alloc nR (.cells #[.int .i64 n1,.int .i64 n2] 73)) f));have aI:wr.heap.size<(wr.alloc (.cells #[.int .i64 n1,.int .i64 n2] 73)).heap.size:=by omega
  clear E ae l G aj ar aU;generalize Qi [n1,n2,x.at',(x.bytes:Int),x.mark]=bs at*
  obtain⟨O2,au,rfl,I⟩:=Jg HR.o.own;go_upto_region 10 with fail;obtain⟨gb,aD⟩:=eX wr.heap.size;rw[←aD]at SK ⊢ aI;clear HR q ac an X;generalize wr.alloc (.cells #[.int .i64 n1,.int .i64 n2] 73)=w5 at*
  clear aD f;have f:=a0.o.below.size;have S0:=Qa (SK.o _ (Qd.Qe bR.drew f));have HX:=Qa (Yh (a:=x) (b:=x) rfl)
  go_region_held3 (fun wy=>wy.cell? ⟨Sb,5,none⟩=some (.map (some m.Pb))∧(wy.cell? ⟨gb,0,none⟩=some (.int .i64 n1)∧wy.cell? ⟨gb,1,none⟩=some (.int .i64 n2))∧(Instr.lookup 125 (.map (some m.Pb)) (.agg #[.int .i64 n1,.int .i64 n2]) false).run prog wy=.ok (Kv x) wy)
   (first|exact SK.o _ M.o|exact SK.o _ (Qd.Qe (d.o.alloc d.o.size _) f)|exact SK.o _ (Qd.Qe d.o f)|exact S0.o)
   (first
    |(go_at_call 109;refine(aV.o _ (a0.o.below.trans (bR.drew.mono f))).mono ?_;rintro en w3 ⟨⟨A3,c3,rfl,C,z⟩,r⟩;(have P:=Qa C);(have N:=Qa z);(have d:Qb (Below w5.heap.size w5 w3):=bR.drew.trans r);(have aE:w.heap.size≤w3.heap.size:=Nat.le_trans f d.o.size);(have D:=Qa (Qu ((a0.o.keep d.o).own) (.cells #[.int .u8 83,.slice A3 bs.length c3] 137)));(have V:=Qa (Kq (Sl.Ja (sz:=2) (n:=1) (Qh.new w3 137 [.int .u8 83,.slice A3 bs.length c3].toArray) rfl)));(have U:=@Qa (∀u∈([.int .u8 83,.slice A3 bs.length c3]:List Value),u.oneCell'=true) (by simp[Value.oneCell']));clear C r z)
    |(refine Q9 _ (by rfl) _ _ _ (by rfl) w.heap.size 137 i0 _ 2 32 YX af ak am al rfl (by decide) (.slice O2 (k+j) au) (k+j) (QI L2) (by rfl) D.o (some ⟨w3.heap.size,0,none⟩) 1 1 _ [.int .u8 83,.slice A3 bs.length c3] (by rfl) V.o U.o (by unfold maxLen;omega) (by omega) (by simp;omega) ?_;intro A4 c4 w4 hown4 hgr4 hnc4;(have g:=Qa hown4);(have B:=Qa hgr4);(have M:Qb (Qd w.heap.size [137] w5 w4):=(Qd.Qe (d.o.alloc d.o.size _) f).trans (Q7 D.o hgr4 (by simp;omega)));clear hown4 hgr4))
  all_goals
   go_wp2_with fail;go_roundw
   case rel=>exact⟨j+1,_,by omega,by simp,a0.o.push aH.o (d.o.alloc d.o.size _) (P.o.below (bR.alloc nR _)) N.o (by decide) ad.o g.o B.o,aC.o.trans M.o⟩
   case measure=>simp[intOf];omega
 have aW:j=nS:=by omega
 subst aW;have aF:¬(j:Int)<j:=by omega
 have hh:=HH.o.below HR.o.below;have c6:wr.cell? ⟨Sb,6,none⟩=some (.slice m.A s.marks.length m.c):=hh.blk.cell 6;have aP:=hh.blk.lt;have b3:=HK.o.nM;have aT:=Qa (Zy HH.o.Xk);have av:rs.length=k+j+s.marks.length:=by
  rw[Z.o,List.length_append,List.length_append,List.length_map,List.length_map,List.length_map,Y.o,F.o]
 have aG:=Qa av;have aK:=Qa HK.o.Xk;obtain⟨O2,au,rfl,I⟩:=Jg HR.o.own;clear hh av;go_wp2_with fail;go_loopw [3,57] (fun out i w6=>∃(i3:Nat)(L3:List Kx),i3≤s.marks.length∧i=.int .i64 (i3:Nat)∧Xg w w6 rs (k+j+i3) L3 out) (fun _ i _=>s.marks.length-(intOf i).toNat)
 case atStart=>exact⟨0,L2,Nat.zero_le _,rfl,HR.o⟩
 clear HR q f I c6 aP;obtain⟨i3,L3,b6,rfl,hR⟩:=hrel;have HR:=Qa hR;have f:=hR.below.size;clear hR;obtain⟨O3,aB,rfl,I⟩:=Jg HR.o.own;by_cases hil:i3<s.marks.length
 ·have ax:(i3:Int)<s.marks.length:=by omega
  obtain⟨b,o,hA,X,hc⟩:=aT.o.2 (by omega);have b0:wr.cell? ⟨b,o+i3,none⟩=some (Qw s.marks[i3]):=by
   have:=hc i3 (by simpa using hil);rw[HR.o.below.cell (p:=⟨b,o+i3,none⟩) X,this];simp
  have b4:=aK.o _ (List.getElem_mem hil);have aq:rs[k+j+i3]? =some (77,s.marks[i3]):=by
   have ah:(s.notes.map VZ++s.Qc.map (fun n=>Ka n.1 n.2)).length=k+j:=by rw[List.length_append,List.length_map,List.length_map,Y.o,F.o]
   rw[Z.o,List.getElem?_append_right (by omega),ah,Nat.add_sub_cancel_left];simp[hil]
  rw[hA];generalize s.marks[i3]=t at*
  have aS:=Qa aq;have ag:=@Qa (∀wy,Calls prog 71 #[.int .u8 77,Qw t] wy fun e w'=>Kz wy w' (77,t) e) (fun wy=>VA (w:=wy) 77 t);clear aq hc
  go_wp2_with (first
   |(go_at_call 71;refine(ag.o _).mono ?_;rintro en w3 ⟨⟨A3,c3,rfl,C,z⟩,r⟩;(have P:=Qa C);(have N:=Qa z);(have d:=Qa r);(have aE:w.heap.size≤w3.heap.size:=Nat.le_trans f d.o.size);(have D:=Qa (Qu ((HR.o.keep d.o).own) (.cells #[.int .u8 77,.slice A3 t.length c3] 137)));(have V:=Qa (Kq (Sl.Ja (sz:=2) (n:=1) (Qh.new w3 137 [.int .u8 77,.slice A3 t.length c3].toArray) rfl)));(have U:=@Qa (∀u∈([.int .u8 77,.slice A3 t.length c3]:List Value),u.oneCell'=true) (by simp[Value.oneCell']));clear C r z)
   |(at_builtin;refine Qv _ rfl _ _ 134 rfl w.heap.size 137 i0 _ 2 32 YX af ak am al rfl (by decide) (.slice O3 (k+j+i3) aB) (k+j+i3) (QI L3) rfl D.o (some ⟨w3.heap.size,0,none⟩) 1 1 _ [.int .u8 77,.slice A3 t.length c3] rfl V.o U.o (by unfold maxLen;omega) (by omega) (by simp;omega) ?_;intro A4 c4 w4 hown4 hgr4 hnc4 _;(have g:=Qa hown4);(have B:=Qa hgr4);clear hown4 hgr4))
  go_roundw
  case rel=>exact⟨i3+1,_,by omega,by simp,HR.o.push aS.o (d.o.alloc d.o.size _) (P.o.below (bR.alloc nR _)) N.o (by decide) (by omega) g.o B.o⟩
  case measure=>simp[intOf];omega
 have aY:i3=s.marks.length:=by omega
 subst aY;have ax:¬(s.marks.length:Int)<s.marks.length:=by omega
 go_wp2_with fail;go_ret;rw[aG.o];exact⟨L3,O3,aB,rfl,HR.o⟩
end Go.Proofs.YtmgmfnimaafkdaaGreatDoor
namespace Go.Proofs.YtmgmfnimaafkdaaGreatDoor
open Tryz
open Go.RowKit Go.Maps
theorem Ek{l:QD}{r:QN}(hr:r.2.length≤4000)(hs:l.size≤65536):l.Jb r≤131072:=by
 unfold QD.Jb Qf;split
 ·omega
 have:(1+r.2.length+(l.size-18)-1)/(l.size-18)≤1+r.2.length+(l.size-18)-1:=Nat.div_le_self _ _;omega
variable {B Lb base:Nat} {d:Qq} {w:World}
theorem Fo{l:QD}(hL:Yw w base Lb B l)(hD:VK w base B d)(hs:J9 w)(hb2:2<base)(hw:d.waits.length+137438953472<2^40)(hsz:l.size=d.size)(he:l.epoch+1<549755813888)
  (K:List Kx)(A:Option Addr)(c:Nat)(hK:Sl w 137 2 A K.length (QI K))(hKb:Yj w K)(hKl:K.length<1099511627776):
  Calls prog 63 #[.pointer (some ⟨Lb,0,none⟩),.slice A K.length c] w fun e w'=>W7 w w' base Lb B (Ju d l (K.map (·.1))) e:=by
 have p:base≤w.heap.size:=by obtain⟨L,A',c',h⟩:=hL;have:=h.low;have:=h.blk.lt;omega
 obtain⟨L,AL,cL,f⟩:=hL;have hL:Yw w base Lb B l:=⟨L,AL,cL,f⟩;have F:=f.blk.lt;have b2:=f.b2;have b3:=f.b3;obtain⟨q,hq⟩:=eX (Ju d l (K.map (·.1)));rw[←hq];unfold Ju at hq;obtain⟨nd,u⟩:=eX (Qf l.size 0);have ae:nd≤1:=by
  rw[u];unfold Qf;split
  ·omega
  have:(0+(l.size-18)-1)/(l.size-18)=0:=Nat.div_eq_of_lt (by omega);rw[this];decide
 have Y:=@Qa (∀wy,Calls prog 56 #[.int .i64 l.size,.int .i64 0] wy fun e w'=>e=.returned (.int .i64 (nd:Nat))∧wy=w') (fun wy=>by
  rw[u];exact JP l.size 0 (by omega) (by decide) wy)
 rw[←u,List.length_map]at hq;obtain⟨T,hT⟩:=eX (nd+((K.map (·.1)).map l.Jb).sum);rw[←hT]at hq;have HN:=@Qa (∀wy (r:QN) (A:Option Addr) (c:Nat),Below w.heap.size w wy→r.2.length<1099511627776→Calls prog 122 #[.pointer (some ⟨Lb,0,none⟩),.agg #[.int .u8 r.1,.slice A r.2.length c]] wy fun e w'=>e=.returned (.int .i64 (l.Jb r:Nat))∧Below wy.heap.size wy w') (fun wy r A c hy hn=>Nu (hL.below hy) r A c hn);have e3:w.cell? ⟨Lb,3,none⟩=some (.int .i64 l.size):=f.blk.cell 3;have HQ:=Qa hq;have HL:=Qa hL;have a3:=Qa f;have HD:=Qa hD;have HS:=Qa hs;have HK:=Qa hK;have H:=Qa hKb;have a1:=Qa hsz;have HT:=Qa hT;have HW:=Qa hw;have HE:=Qa he;clear hq hL f hD hs hK hKb hsz u hT hw he;go_enter func63,ntmps63;go_wp2_with (go_at_call 56;refine(Y.o _).mono ?_;rintro en w' ⟨rfl,rfl⟩);clear e3;go_loopw [5,17] (fun sv i wr=>∃(k s:Nat),k≤K.length∧i=.int .i64 (k:Nat)∧sv=.int .i64 (s:Nat)∧T=s+(((K.drop k).map (·.1)).map l.Jb).sum∧s≤nd+k*131072∧(∀j (hj:j<K.length),j<k→K[j].1.2.length≤4000)∧Below w.heap.size w wr) (fun _ i _=>K.length-(intOf i).toNat)
 case atStart=>exact⟨0,nd,Nat.zero_le _,rfl,rfl,HT.o,by omega,fun _ _ h=>absurd h (by omega),bR⟩
 obtain⟨k,s,hk,rfl,rfl,t,ag,g,hb⟩:=hrel;have W:=Qa t;have P:=Qa g;have HB:=Qa hb;have a6:=hb.size;by_cases hkl:k<K.length
 ·obtain⟨b,o,hA,aj,c1,c2⟩:=(HK.o.below hb).Dg k hkl rfl;obtain⟨y1,y2,y3,y4⟩:=H.o (K[k]) (List.getElem_mem _);have af:(k:Int)<K.length:=by omega
  have a0:=@Qa (K.drop k=K[k]::K.drop (k+1)) (List.drop_eq_getElem_cons hkl);have ab:=@Qa (K[k]∈K) (List.getElem_mem _);have HX:Qb (K[k]? =some K[k]):=List.getElem?_eq_getElem hkl;clear t g hb y1;generalize K[k]=x at*
  obtain⟨r,Bx,cb⟩:=x;simp only at y2 y3 y4 c1 c2;subst hA;have N:Below w.heap.size w (wr.alloc (.cells #[.int .u8 r.1,.slice Bx r.2.length cb] 137)):=HB.o.alloc a6 _;have n:Qh (wr.alloc (.cells #[.int .u8 r.1,.slice Bx r.2.length cb] 137)) wr.heap.size 137 #[.int .u8 r.1,.slice Bx r.2.length cb]:=Qh.new wr 137 _;go_upto_region 7 with fail;generalize wr.alloc (.cells #[.int .u8 r.1,.slice Bx r.2.length cb] 137)=w7 at*
  obtain⟨X,hX⟩:=eX wr.heap.size;rw[←hX]at n ⊢;have x0:w7.cell? ⟨X,0,none⟩=some (.int .u8 r.1):=n.cell 0;have x1:w7.cell? ⟨X,1,none⟩=some (.slice Bx r.2.length cb):=n.cell 1;have xl:=n.lt;have m:=Qa N;clear hX N n c1 c2;by_cases hbig:4000<r.2.length
  ·have D:(4000:Int)<r.2.length:=by omega
   have v:(K.map (·.1)).any (fun r=>decide (4000<r.2.length))=true:=List.any_eq_true.2 ⟨r,List.mem_map.2 ⟨(r,Bx,cb),ab.o,rfl⟩,by simpa using hbig⟩;have a:q=(1,d,l):=by rw[HQ.o,if_pos v]
   subst a;clear v;go_wp2_with fail;go_ret;exact⟨rfl,HL.o.below m.o,HD.o.below m.o,Qd.Qe m.o p⟩
  have D:¬(4000:Int)<r.2.length:=by omega
  have ah:=Ek (l:=l) (r:=r) (by omega) b3;have HC:=Qa (HN.o w7 r Bx cb m.o y4);have a8:Qb (((K.drop k).map (·.1)).map l.Jb=l.Jb r::((K.drop (k+1)).map (·.1)).map l.Jb):=by
   show((K.drop k).map (·.1)).map l.Jb=l.Jb r::((K.drop (k+1)).map (·.1)).map l.Jb;rw[a0.o];rfl
  generalize l.Jb r=nr at*
  go_wp2_with (go_at_call 122;refine HC.o.mono ?_;rintro en w8 ⟨rfl,M⟩;(have V:=Qa (m.o.trans (M.mono m.o.size)));clear M);go_roundw
  case rel=>
   refine⟨k+1,s+nr,by omega,by go_num,by rw[Int.natCast_add], ?_,by omega,fun j hj hjk=> ?_,V.o⟩
   ·rw[W.o,a8.o,List.sum_cons];omega
   by_cases e:j=k
   ·subst e;have:=HX.o;rw[List.getElem?_eq_getElem hj]at this;injection this with this;rw[this];simp only;omega
   exact P.o j hj (by omega)
  case measure=>simp[intOf];omega
 obtain rfl:k=K.length:=by omega
 have S:(K.map (·.1)).any (fun r=>decide (4000<r.2.length))=false:=by
  rw[List.any_eq_false];intro r hr;obtain⟨x,hx,rfl⟩:=List.mem_map.1 hr;obtain⟨j,hj,rfl⟩:=List.mem_iff_getElem.1 hx;have:=g j hj hj;simp only[decide_eq_true_eq];omega
 have a2:s=T:=by rw[t,List.drop_length];simp
 subst a2;have E:q=if l.half<s∨1000000<K.length then(5,d,l)else Ku d l (K.map (·.1)):=by
  rw[HQ.o,S];rfl
 have C:=Qa E;have c2:wr.cell? ⟨Lb,2,none⟩=some (.int .i64 l.half):=(a3.o.blk.below hb F).cell 2;have ai:Lb<wr.heap.size:=by omega
 clear S E t g hb;by_cases g1:l.half<s
 ·have a:q=(5,d,l):=by rw[C.o,if_pos (.inl g1)]
  have ad:(l.half:Int)<s:=by omega
  subst a;go_wp2_with fail;go_ret;exact⟨rfl,HL.o.below HB.o,HD.o.below HB.o,Qd.Qe HB.o p⟩
 have ad:¬(l.half:Int)<s:=by omega
 by_cases g2:1000000<K.length
 ·have a:q=(5,d,l):=by rw[C.o,if_pos (.inr g2)]
  have a9:(1000000:Int)<K.length:=by omega
  subst a;go_wp2_with fail;go_ret;exact⟨rfl,HL.o.below HB.o,HD.o.below HB.o,Qd.Qe HB.o p⟩
 have a:q=Ku d l (K.map (·.1)):=by rw[C.o,if_neg (by omega)]
 have a9:¬(1000000:Int)<K.length:=by omega
 have a5:=Qa a;have Z:=@Qa (Calls prog 113 #[.slice A K.length c] wr fun e w'=>UU wr w' K e) (ZC K A c (HK.o.below HB.o) (H.o.below HB.o) (by omega))
 have ac:=@Qa (∀wy (K':List Kx) A' c',Below w.heap.size w wy→K'.map (·.1)=K.map (·.1)→wy.ownsRow base 137 2 (.slice A' K.length c') K.length (QI K')→Yj wy K'→Calls prog 112 #[.pointer (some ⟨Lb,0,none⟩),.slice A' K.length c'] wy fun e w'=>W7 wy w' base Lb B q e) (fun wy K' A' c' hy hm ho hbd=>by
  have hl:K'.length=K.length:=by simpa using congrArg List.length hm
  rw[←hl]at ho ⊢;have:=Mo (HL.o.below hy) (HD.o.below hy) (HS.o.below hy) hb2 HW.o a1.o HE.o K' A' c' ho hbd (by omega);rw[hm,←a5.o]at this;exact this)
 clear a
 go_wp2_with (first
  |(go_at_call 113;refine Z.o.mono ?_;rintro en w2 ⟨⟨K',A',c',rfl,O,I,z,ak⟩,y⟩;(have R:=Qa (HB.o.trans (y.mono HB.o.size)));(have Q:=Qa (ac.o w2 K' A' c' R.o I (Xe O (by have:=HB.o.size;omega)) z));clear O I z y)
  |(go_at_call 112;refine Q.o.mono ?_;rintro en w3 ⟨rfl,G,J,U⟩;(have a7:=Qa G);(have a4:=Qa J);(have aa:=Qa U);clear G J U))
 go_ret;exact⟨rfl,a7.o,a4.o,(Qd.Qe R.o p).trans aa.o⟩
end Go.Proofs.YtmgmfnimaafkdaaGreatDoor
namespace Go.Proofs.YtmgmfnimaafkdaaGreatDoor
open Tryz
open Go.RowKit Go.Maps Go.Shelf
variable {B Lb base:Nat} {d:Qq} {w:World}
theorem Ie{l:QD}(hL:Wm w base Lb B l)(hD:VK w base B d)(hs:J9 w)(hb2:2<base)(hw:d.waits.length+137438953472<2^40)(hsz:l.size=d.size)(he:l.epoch+1<549755813888)
  (K:List Kx)(A:Option Addr)(c:Nat)(hK:Sl w 137 2 A K.length (QI K))(hKb:Yj w K)(hKl:K.length<1099511627776):
  Calls prog 63 #[.pointer (some ⟨Lb,0,none⟩),.slice A K.length c] w fun e w'=>Gl w w' base Lb B (Ju d l (K.map (·.1))) e:=by
 obtain⟨rs,hl,hL⟩:=hL;refine(Fo hL hD hs hb2 hw hsz he K A c hK hKb hKl).mono ?_;rintro e w' ⟨h1,h2,h3,h4⟩;obtain⟨a,g1,g2⟩:=El (d:=d) (keep:=K.map (·.1)) hl (show Ju d l (K.map (·.1))=((Ju d l (K.map (·.1))).1,(Ju d l (K.map (·.1))).2.1,(Ju d l (K.map (·.1))).2.2)from rfl);rw[g2]at h1 h2 h3;exact⟨h1,⟨a,g1,h2⟩,h3,h4⟩
variable {d1:Qq} {e:Nat} {l1:QD}
theorem Fi{l:QD}{r:QN}(hl:d.Qk.length≤65536)(h:VN d l r=(e,d1,l1)):d1.size=d.size∧d1.Qk.length=d.Qk.length∧d1.waits.length≤d.waits.length+65536∧(e≠0→l1=l):=by
 unfold VN at h;split at h
 ·injection h with h1 h;injection h with h2 h3;subst h1;subst h2;subst h3;exact⟨rfl,rfl,by omega,fun _=>rfl⟩
 split at h
 ·injection h with h1 h;injection h with h2 h3;subst h1;subst h2;subst h3;exact⟨rfl,rfl,by omega,fun _=>rfl⟩
 cases hp:KN d l.at' 82 (l.epoch*J6+l.Qo.length+1) (J7 r)with
 |mk n q=>
  obtain⟨e0,d0⟩:=q;rw[hp]at h;obtain⟨a1,a2,a3⟩:=Iu hl hp;cases e0 with
  |zero=>
   injection h with h1 h;injection h with h2 h3;subst h1;subst h2;subst h3;exact⟨a1,a2,a3,fun hx=>absurd rfl hx⟩
  |succ e0=>
   injection h with h1 h;injection h with h2 h3;subst h1;subst h2;subst h3;exact⟨a1,a2,a3,fun _=>rfl⟩
theorem Wa(d:Qq)(n:Nat)(b:List UInt8):(Jz d n b).2.size=d.size:=by
 unfold Jz;split
 ·rfl
 split<;>rfl
theorem XW(d:Qq):(Q4 d).2.size=d.size:=by
 unfold Q4;split<;>rfl
theorem Ru(kind mark:Nat)(b:List UInt8)(size a:Nat):∀(k i:Nat)(d:Qq),(Vl kind mark b size a k i d).2.size=d.size
 |0,_,_=>rfl
 |k+1,i,d=>by
  unfold Vl;have h:=Wa d (a+i) (JZ size kind mark (b.drop (i*(size-18))) (i==0));rcases hq:Jz d (a+i) (JZ size kind mark (b.drop (i*(size-18))) (i==0))with⟨e,d'⟩;rw[hq]at h;cases e with
  |zero=>exact(Ru kind mark b size a k (i+1) d').trans h
  |succ e=>exact h
theorem Oz(d:Qq)(a kind mark:Nat)(b:List UInt8):(KN d a kind mark b).2.2.size=d.size:=by
 unfold KN;split
 ·rfl
 split
 ·rfl
 have h:=Ru kind mark b d.size a (Qf d.size b.length) 0 d;rcases hq:Vl kind mark b d.size a (Qf d.size b.length) 0 d with⟨e,d'⟩;rw[hq]at h;cases e<;>exact h
theorem OI(size epoch:Nat):∀(rs:List QN)(i a:Nat)(d:Qq),(JB size epoch rs i a d).2.2.size=d.size
 |[],_,_,_=>rfl
 |r::rs,i,a,d=>by
  unfold JB;have h:=Oz d a 82 (epoch*J6+i+1) (J7 r);rcases hq:KN d a 82 (epoch*J6+i+1) (J7 r)with⟨n,e,d'⟩;rw[hq]at h;cases e with
  |zero=>exact(OI size epoch rs (i+1) (a+n) d').trans h
  |succ e=>exact h
theorem Rw:∀(k n:Nat)(d:Qq),(Vx k n d).2.size=d.size
 |0,_,_=>rfl
 |k+1,n,d=>by
  unfold Vx;have h:=Wa d n (List.replicate d.size 0);rcases hq:Jz d n (List.replicate d.size 0)with⟨e,d'⟩;rw[hq]at h;cases e with
  |zero=>exact(Rw k (n+1) d').trans h
  |succ e=>exact h
theorem NP(d:Qq)(l:QD)(keep:List QN):(Ku d l keep).2.1.size=d.size:=by
 unfold Ku;simp only;have h1:=OI l.size (l.epoch+1) keep 0 (l.begin (1-l.use)+Qf l.size 0) d;rcases hq:JB l.size (l.epoch+1) keep 0 (l.begin (1-l.use)+Qf l.size 0) d with⟨e1,a,d1⟩;rw[hq]at h1;cases e1 with
 |succ e=>exact h1
 |zero=>
  simp only at h1 ⊢;have h2:=Rw (l.begin (1-l.use)+l.half-a) a d1;rcases hq:Vx (l.begin (1-l.use)+l.half-a) a d1 with⟨e2,d2⟩;rw[hq]at h2;cases e2 with
  |succ e=>exact h2.trans h1
  |zero=>
   simp only at h2 ⊢;have h3:=XW d2;rcases hq:Q4 d2 with⟨e3,d3⟩;rw[hq]at h3;cases e3 with
   |succ e=>exact h3.trans (h2.trans h1)
   |zero=>
    simp only at h3 ⊢;have h4:=Oz d3 (l.begin (1-l.use)) 72 (l.epoch+1) [];rcases hq:KN d3 (l.begin (1-l.use)) 72 (l.epoch+1) []with⟨n,e4,d4⟩;rw[hq]at h4;cases e4 with
    |succ e=>exact h4.trans (h3.trans (h2.trans h1))
    |zero=>
     simp only at h4 ⊢;have h5:=XW d4;rcases hq:Q4 d4 with⟨e5,d5⟩;rw[hq]at h5;cases e5<;>exact h5.trans (h4.trans (h3.trans (h2.trans h1)))
theorem Ud(d:Qq)(l:QD)(keep:List QN):(Ju d l keep).2.1.size=d.size:=by
 unfold Ju;split
 ·rfl
 split
 ·rfl
 exact NP d l keep
def JV(s:QM)(r:QN):Nat × Qq × QD:=match VN s.d s.log r with
 |(5,d1,l1)=>Ju d1 l1 (Qn s)
 |x=>x
theorem Ym(s was:QM)(r:QN):Qy s was r=match JV s r with
  |(0,d,l)=>(0,{ s with d:=d,log:=l })
  |(e,d,l)=>(e,{ was with d:=d,log:=l }):=by
 unfold Qy JV;obtain⟨e,d1,l1⟩:=VN s.d s.log r;by_cases h0:e=0
 ·subst h0;rfl
 by_cases h5:e=5
 ·subst h5;simp only;obtain⟨e2,d2,l2⟩:=Ju d1 l1 (Qn s);cases e2<;>rfl
 cases e with
 |zero=>exact absurd rfl h0
 |succ e=>
  match e,h5 with
  |0,_=>rfl
  |1,_=>rfl
  |2,_=>rfl
  |3,_=>rfl
  |e+5,_=>rfl
variable {Sb:Nat} {m:KY} {s:QM}
theorem Xz(h:QO w base Sb s m)(ok:MF s)(hwt:s.d.waits.length≤824633720832+65536)(hep:s.log.epoch+2<549755813888)(hat:s.log.at'≤s.log.begin s.log.use+s.log.half)(hsz:s.log.size=s.d.size)
  (r:QN)(hk:r.1<256)(hr:r.2.length<1099511627776)(A:Option Addr)(c:Nat)(hby:Kb w A r.2)(hc:r.2.length≤c)(hrec:(Qn s).length≤1000000000)
  (g:Nat)(lb:Array Value)(eg:∀args w,(callFunc g args).run prog w=.ok (.enter g args) w)(R:World→Prop)
  (hok:∀w' d l,JV s r=(0,d,l)→Qd base [121,165,167,216,137] w w'→QO w' base Sb { s with d:=d,log:=l } m→R w')
  (hun:∀wy e d l,JV s r=(e,d,l)→e≠0→Qd base [121,165,167,216,137] w wy→QO wy base Sb { s with d:=d,log:=l } m→Calls prog g lb wy fun en w'=>en=.returned (.tuple #[])∧R w'):
  Calls prog 70 #[.pointer (some ⟨Sb,0,none⟩),.agg #[.int .u8 r.1,.slice A r.2.length c],.func (.func g) #[] lb] w fun e w'=>e=.returned (.int .i64 (JV s r).1)∧R w':=by
 have HH:=Qa h;have HK:=Qa ok;have U:=Qa hby;have D:=h.lt;have S:s.d.Qk.length≤65536:=by obtain⟨m',hm⟩:=h.Ul;exact hm.n1.2
 have z:Below w.heap.size w (w.alloc (.cells #[.int .u8 r.1,.slice A r.2.length c] 137)):=bR.alloc nR _;have j:=Qa z;have x:=Qa (Qh.new w 137 #[.int .u8 r.1,.slice A r.2.length c]);obtain⟨e1,d1,l1,hadd⟩:∃e1 d1 l1,VN s.d s.log r=(e1,d1,l1):=⟨_,_,_,rfl⟩;have b:=Fi S hadd
 have p:=@Qa (∀wy,Below w.heap.size w wy→Calls prog 129 #[.pointer (some ⟨m.Lb,0,none⟩),.agg #[.int .u8 r.1,.slice A r.2.length c]] wy fun e w'=>e=.returned (.int .i64 (e1:Nat))∧Wm w' base m.Lb m.B l1∧VK w' base m.B d1∧Qd base [121,165,167,216,137] wy w') (fun wy hy=>by
  have hh:=HH.o.below hy;have:=EU hh.log hh.Ul hh.Rn.steps hh.b2 hat (by omega) hsz r hk A c (U.o.below hy) hr hc;rw[hadd]at this;exact this)
 clear h ok hby z;go_enter func70,ntmps70;go_upto_region 1 with fail;generalize w.alloc (.cells #[.int .u8 r.1,.slice A r.2.length c] 137)=w1 at*
 have k:=j.o.size
 have SK:=@Qa (∀wy,Qd base [121,165,167,216] w1 wy→wy.cell? ⟨Sb,2,none⟩=some (.pointer (some ⟨m.Lb,0,none⟩))∧wy.cell? ⟨w.heap.size,0,none⟩=some (.int .u8 r.1)∧wy.cell? ⟨w.heap.size,1,none⟩=some (.slice A r.2.length c)) (fun wy hy=>by
  have hs:=((HH.o.below j.o).blk).keeps hy (by decide);have hx:=x.o.keeps hy (by decide);exact⟨hs.cell 2,hx.cell 0,hx.cell 1⟩)
 have q:base≤w1.heap.size:=by omega
 have S0:=Qa (SK.o _ (Qd.Qe bR.drew q));obtain⟨s1,s2,s3⟩:=S0.o;have H:Sb<w1.heap.size:=Nat.lt_of_lt_of_le HH.o.blk.lt k;have a0:=x.o.lt;have HT:Qb (JV s r=if e1=5 then Ju d1 l1 (Qn s)else(e1,d1,l1)):=by
  show JV s r=if e1=5 then Ju d1 l1 (Qn s)else(e1,d1,l1)
  unfold JV;rw[hadd];split
  ·rename_i h5;injection h5 with h5 h6;injection h6 with h6 h7;rw[if_pos h5,h6,h7]
  rename_i h5;rw[if_neg (fun e=>h5 d1 l1 (by rw[e]))]
 go_cut [7] (fun v wx=>v=.int .i64 (e1:Nat)∧QO wx base Sb { s with d:=d1,log:=l1 } m∧Qd base [121,165,167,216,137] w wx)
 case first=>
  go_region_law (first|(go_simp;go_at_call 129;refine(p.o _ (j.o.trans (bR.drew.mono k))).mono ?_;rintro en w2 ⟨rfl,I,E,G⟩;(have Y:=Qa I);(have P:=Qa E);(have V:=Qa G);clear I E G))
  all_goals
   go_wp2_with fail;go_meet;have kk:=(Qd.Qe (base:=base) (ts:=[121,165,167,216,137]) (j.o.trans (bR.drew.mono k)) D).trans V.o;exact⟨rfl,HH.o.YG kk P.o Y.o b.1,kk⟩
 obtain⟨rfl,t,y⟩:=hcut;have f:=Qa t;have n:=Qa y;have i:base≤wc.heap.size:=Nat.le_trans D y.below.size;clear s1 s2 s3 S0 SK p x H a0 y j k q;by_cases h5:e1=5
 ·have X:((e1:Int)==5)=true:=by rw[h5];rfl
  have a:Qb (JV s r=Ju d1 l1 (Qn s)):=by
   show JV s r=Ju d1 l1 (Qn s);rw[HT.o,if_pos h5]
  obtain⟨e2,d2,l2,htu⟩:∃e2 d2 l2,Ju d1 l1 (Qn s)=(e2,d2,l2):=⟨_,_,_,rfl⟩;rw[htu]at a;have K:l1=s.log:=b.2.2.2 (by omega);have C:=@Qa (∀wy,Below wc.heap.size wc wy→Calls prog 64 #[.pointer (some ⟨Sb,0,none⟩)] wy fun e w'=>∃L A c,e=.returned (.slice A (Qn s).length c)∧Xg wy w' (Qn s) (Qn s).length L (.slice A (Qn s).length c)) (fun wy hy=>Z0 (s:={ s with d:=d1,log:=l1 }) (f.o.below hy) (HK.o.YG d1 l1))
  have Z:=@Qa (∀wy w3 L A c,Below wc.heap.size wc wy→Xg wy w3 (Qn s) (Qn s).length L (.slice A (Qn s).length c)→Calls prog 63 #[.pointer (some ⟨m.Lb,0,none⟩),.slice A (Qn s).length c] w3 fun e w'=>e=.returned (.int .i64 (e2:Nat))∧QO w' base Sb { s with d:=d2,log:=l2 } m∧Qd base [121,165,167,216,137] wc w') (fun wy w3 L A c hy hR=>by
   have O:Below wc.heap.size wc w3:=hy.trans (hR.below.mono hy.size);have hh:=f.o.below O;have hL:L.map (·.1)=Qn s:=by rw[hR.rcs,List.take_length]
   have h2:d1.size=s.d.size:=b.1;have:=Ie hh.log hh.Ul hh.Rn.steps hh.b2 (by have:=b.2.2.1;show d1.waits.length+137438953472<2^40;omega) (by rw[K];exact hsz.trans h2.symm) (by show l1.epoch+1<549755813888;rw[K];omega) L A c (by rw[hR.len];exact Sl.Jl hR.own) hR.OM (by rw[hR.len];omega);rw[hL,hR.len,htu]at this;refine this.mono ?_;rintro e w' ⟨h1,Q,h3,h4⟩;have kk:=(Qd.Qe (base:=base) (ts:=[121,165,167,216,137]) O i).trans h4;have M:d2.size=d1.size:=by
    have:=Ud d1 l1 (Qn s);rw[htu]at this;exact this
   exact⟨h1,(f.o.YG kk h3 Q M),kk⟩)
  have SK:=@Qa (∀wy,Qd base [121,165,167,216,137] wc wy→wy.cell? ⟨Sb,2,none⟩=some (.pointer (some ⟨m.Lb,0,none⟩))) (fun wy hy=>(f.o.blk.keeps hy (by decide)).cell 2);have S0:=Qa (SK.o _ (Qd.Qe bR.drew i));clear t htu;subst h5;generalize (Qn s).length=nr at*
  go_upto_region 3 with fail
  go_region_held3 (fun wy=>wy.cell? ⟨Sb,2,none⟩=some (.pointer (some ⟨m.Lb,0,none⟩)))
   (first|exact SK.o _ u.o|exact SK.o _ (Qd.Qe W.o i)|exact S0.o)
   (first
    |(go_at_call 64;refine(C.o _ bR.drew).mono ?_;rintro en w3 ⟨L,A3,c3,rfl,hR⟩;(have HR:=Qa hR);(have W:Qb (Below wc.heap.size wc w3):=bR.drew.trans hR.below);clear hR)
    |(go_at_call 63;refine(Z.o _ _ _ _ _ bR.drew HR.o).mono ?_;rintro en w4 ⟨rfl,N,J⟩;(have F:=Qa N);(have u:=Qa J);clear N J))
  by_cases he2:e2=0
  ·subst he2;go_wp2_with fail;go_ret;exact⟨by rw[a.o];rfl,hok _ d2 l2 a.o (n.o.trans (by have:=u.o;exact this)) F.o⟩
  have T:((e2:Int) != 0)=true:=by simp;omega
  have HU:=Qa (hun w4 e2 d2 l2 a.o he2 (n.o.trans u.o) F.o);go_wp2_with (go_at_fn g;refine HU.o.mono ?_;rintro en w5 ⟨rfl,h5⟩;(have H5:=Qa h5);clear h5);go_ret;exact⟨by rw[a.o];rfl,H5.o⟩
 have X:((e1:Int)==5)=false:=by simp;omega
 have a:Qb (JV s r=(e1,d1,l1)):=by
  show JV s r=(e1,d1,l1);rw[HT.o,if_neg h5]
 by_cases he1:e1=0
 ·subst he1;go_wp2_with fail;go_ret;exact⟨by rw[a.o];rfl,hok _ d1 l1 a.o n.o f.o⟩
 have T:((e1:Int) != 0)=true:=by simp;omega
 have HU:=Qa (hun wc e1 d1 l1 a.o he1 n.o f.o);go_wp2_with (go_at_fn g;refine HU.o.mono ?_;rintro en w5 ⟨rfl,h5⟩;(have H5:=Qa h5);clear h5);go_ret;exact⟨by rw[a.o];rfl,H5.o⟩
end Go.Proofs.YtmgmfnimaafkdaaGreatDoor
namespace Go.Proofs.YtmgmfnimaafkdaaGreatDoor
open Tryz
open Go.RowKit Go.Maps Go.Shelf Go.Sort
variable {Sb base:Nat} {m:KY} {s:QM} {w:World}
theorem QO.DW(h:QO w base Sb s m)(p:Nat):
  QO (w.setCell ⟨Sb,8,none⟩ (.int .i64 p)) base Sb { s with QA:=p } m∧Qd base [129] w (w.setCell ⟨Sb,8,none⟩ (.int .i64 p)):=by
 have s1:=h.blk.set 8 (.int .i64 p);have k:=(Qd.refl base [129] w).set (o:=8) h.blk h.low (by simp) (.int .i64 p);exact⟨⟨h.low,s1,h.Ul.keeps k (by decide) (by decide) (by decide) (by decide) (by decide),h.log.keeps k (by decide) (by decide) (by decide),h.map.keeps k (by decide) (by decide),h.OG.keeps k (by decide),h.Wn,h.pmap.keeps k (by decide),h.Iw,h.ne,QF h.Xk k (by decide),h.Rn.below k.below,h.b2⟩,k⟩
def Cp(s:QM):Nat × Int × QM:=
 let s:=if s.epoch≠s.log.epoch then { s with epoch:=s.log.epoch,QA:=0 }else s
 (0,(s.epoch*1048576+(s.QA+1):Int),{ s with QA:=s.QA+1 })
theorem Ex(s:QM):YD s=if s.epoch=s.log.epoch∧s.QA=1048575 then(match Ju s.d s.log (Qn s)with
  |(0,d1,l1)=>Cp { s with d:=d1,log:=l1 }
  |(e,d1,l1)=>(e,0,{ s with d:=d1,log:=l1 }))else Cp s:=rfl
theorem Pq(d:Qq)(l:QD)(keep:List QN):(Ku d l keep).2.2.epoch≤l.epoch+1:=by
 unfold Ku;simp only;rcases JB l.size (l.epoch+1) keep 0 (l.begin (1-l.use)+Qf l.size 0) d with⟨e1,a,d1⟩;cases e1 with
 |succ e=>exact Nat.le_succ _
 |zero=>
  simp only;rcases Vx (l.begin (1-l.use)+l.half-a) a d1 with⟨e2,d2⟩;cases e2 with
  |succ e=>exact Nat.le_succ _
  |zero=>
   simp only;rcases Q4 d2 with⟨e3,d3⟩;cases e3 with
   |succ e=>exact Nat.le_succ _
   |zero=>
    simp only;rcases KN d3 (l.begin (1-l.use)) 72 (l.epoch+1) []with⟨n,e4,d4⟩;cases e4 with
    |succ e=>exact Nat.le_succ _
    |zero=>
     simp only;rcases Q4 d4 with⟨e5,d5⟩;cases e5 with
     |zero=>exact nR
     |succ e=>exact Nat.le_succ _
theorem Nt(d:Qq)(l:QD)(keep:List QN):(Ju d l keep).2.2.epoch≤l.epoch+1:=by
 unfold Ju;split
 ·exact Nat.le_succ _
 split
 ·exact Nat.le_succ _
 exact Pq d l keep
def Dz(w w':World)(base Sb:Nat)(m:KY)(r:Nat × Int × QM)(e:Ending):Prop:=e=.returned (.tuple #[.int .i64 r.2.1,.int .i64 r.1])∧QO w' base Sb r.2.2 m∧Qd base [121,165,167,216,137,129] w w'
theorem EK(h:QO w base Sb s m)(ok:MF s)(hwt:s.d.waits.length≤824633720832+65536)(hep:s.log.epoch+2<549755813888)(hsz:s.log.size=s.d.size)(hse:s.epoch<549755813888)(hp:s.QA≤1048576):
  Calls prog 106 #[.pointer (some ⟨Sb,0,none⟩)] w fun e w'=>Dz w w' base Sb m (YD s) e:=by
 have HH:=Qa h;have HK:=Qa ok;have M:=h.lt;have ae:=h.blk.lt;have j:=@Qa (∀wy,Below w.heap.size w wy→Calls prog 159 #[.pointer (some ⟨m.Lb,0,none⟩)] wy fun e w'=>e=.returned (.int .i64 (s.log.epoch:Nat))∧wy=w') (fun wy hy=>WK (HH.o.below hy).log)
 have SK:=@Qa (∀wy,Below w.heap.size w wy→wy.cell? ⟨Sb,2,none⟩=some (.pointer (some ⟨m.Lb,0,none⟩))∧wy.cell? ⟨Sb,7,none⟩=some (.int .i64 s.epoch)∧wy.cell? ⟨Sb,8,none⟩=some (.int .i64 s.QA)) (fun wy hy=>by
  have hb:=(HH.o.below hy).blk;exact⟨hb.cell 2,hb.cell 7,hb.cell 8⟩)
 have S0:=Qa (SK.o _ bR.drew);obtain⟨q,hq⟩:=eX (YD s);rw[←hq];rw[Ex]at hq;have HQ:=Qa hq;clear h ok hq;go_enter func106,ntmps106;go_upto_region 1 with fail;have t:(s.epoch=s.log.epoch∨s.epoch≠s.log.epoch):=Classical.em _;go_cut [21] (fun v wx=>v=.bool (decide (s.epoch=s.log.epoch∧s.QA=1048575))∧Below w.heap.size w wx)
 case first=>
  rcases t with he|he
  ·have ac:((s.epoch:Int)==(s.log.epoch:Int))=true:=by simp[he]
   go_region_held3 (fun wy=>wy.cell? ⟨Sb,2,none⟩=some (.pointer (some ⟨m.Lb,0,none⟩))∧wy.cell? ⟨Sb,7,none⟩=some (.int .i64 s.epoch)∧wy.cell? ⟨Sb,8,none⟩=some (.int .i64 s.QA))
    (first|exact S0.o)
    (first|(go_at_call 159;refine(j.o _ bR.drew).mono ?_;rintro en w2 ⟨rfl,rfl⟩))
   all_goals
    go_wp2_with fail;go_meet;refine⟨?_,bR.drew⟩;congr 1;rw[Bool.eq_iff_iff];simp[he];try omega
  have ac:((s.epoch:Int)==(s.log.epoch:Int))=false:=by simp;omega
  obtain⟨a2,a7,a8⟩:=SK.o _ bR;have r2:=cell_regrown a2;have r7:=cell_regrown a7
  have i:∀d os,Calls prog 159 #[.pointer (some ⟨m.Lb,0,none⟩)] (grow (redrawn w d) os) fun en w''=>en=.returned (.int .i64 (s.log.epoch:Nat))∧∃p:Regrown,w''=grow (redrawn w p.d) p.os:=fun d os=>
   Calls.regrown_of ((j.o _ (below_regrown w d os)).mono fun _ _ ⟨h1,h2⟩=>⟨h1,h2▸bR⟩)
  refine wp_region_quiet_below (by kernel_rfl) (by kernel_rfl) ?_
  repeat (go_big_quiet_step (exact i _ _))
  refine wpQuiet_nil ?_;intro _ hw';obtain⟨⟨dq,k⟩,n⟩:=hw';subst n;go_wp2_with fail;go_meet;exact⟨by simp[he],below_regrown w dq k⟩
 obtain⟨rfl,z⟩:=hcut;have hh:QO wc base Sb s m:=HH.o.below z;have kk:Qd base [121,165,167,216,137,129] w wc:=Qd.Qe z M;have x:=Qa hh;have Y:=Qa kk;have G:base≤wc.heap.size:=Nat.le_trans M z.size;have F:(s.epoch=s.log.epoch∧s.QA=1048575)∨¬(s.epoch=s.log.epoch∧s.QA=1048575):=Classical.em _;clear hh kk z S0 SK j t;obtain⟨bq,hbq⟩:∃bq,bq=decide (s.epoch=s.log.epoch∧s.QA=1048575):=⟨_,rfl⟩;rw[←hbq];have Z:=Qa hbq;clear hbq;go_upto_if 21 with fail;go_cut [4] (fun _ wx=>∃s2:QM,QO wx base Sb s2 m∧Qd base [121,165,167,216,137,129] w wx∧q=Cp s2∧s2.epoch<549755813888∧s2.QA≤1048576∧s2.log.epoch<549755813888)
 case first=>
  rcases F with hc|hc
  ·have E:bq=true:=by rw[Z.o];exact decide_eq_true hc
   subst E;obtain⟨e2,d2,l2,htu⟩:∃e2 d2 l2,Ju s.d s.log (Qn s)=(e2,d2,l2):=⟨_,_,_,rfl⟩
   have l:q=match ((e2,d2,l2):Nat × Qq × QD)with
     |(0,d1,l1)=>Cp { s with d:=d1,log:=l1 }
     |(e,d1,l1)=>(e,0,{ s with d:=d1,log:=l1 }):=by rw[HQ.o,if_pos hc,htu]
   have a5:=Nt s.d s.log (Qn s);have D:=Ud s.d s.log (Qn s);rw[htu]at a5 D;have U:=@Qa (∀wy,Below wc.heap.size wc wy→Calls prog 64 #[.pointer (some ⟨Sb,0,none⟩)] wy fun e w'=>∃L A c,e=.returned (.slice A (Qn s).length c)∧Xg wy w' (Qn s) (Qn s).length L (.slice A (Qn s).length c)) (fun wy hy=>Z0 (x.o.below hy) HK.o);have ag:(Qn s).length≤300003:=by
    have a1:=HK.o.nN;have a2:=HK.o.nS;have a3:=HK.o.nM;rw[Vd,List.length_append,List.length_append,List.length_map,List.length_map,List.length_map];omega
   have ad:=@Qa (∀wy w3 L A c,Below wc.heap.size wc wy→Xg wy w3 (Qn s) (Qn s).length L (.slice A (Qn s).length c)→Calls prog 63 #[.pointer (some ⟨m.Lb,0,none⟩),.slice A (Qn s).length c] w3 fun e w'=>e=.returned (.int .i64 (e2:Nat))∧QO w' base Sb { s with d:=d2,log:=l2 } m∧Qd base [121,165,167,216,137] wc w') (fun wy w3 L A c hy hR=>by
    have a0:Below wc.heap.size wc w3:=hy.trans (hR.below.mono hy.size);have hh:=x.o.below a0;have hL:L.map (·.1)=Qn s:=by rw[hR.rcs,List.take_length]
    have:=Ie hh.log hh.Ul hh.Rn.steps hh.b2 (by omega) hsz (by omega) L A c (by rw[hR.len];exact Sl.Jl hR.own) hR.OM (by rw[hR.len];omega);rw[hL,hR.len,htu]at this;refine this.mono ?_;rintro e w' ⟨h1,a9,h3,h4⟩;have kk:=(Qd.Qe (base:=base) (ts:=[121,165,167,216,137]) a0 G).trans h4;exact⟨h1,(x.o.YG kk h3 a9 D),kk⟩)
   have SK:=@Qa (∀wy,Qd base [121,165,167,216,137] wc wy→wy.cell? ⟨Sb,2,none⟩=some (.pointer (some ⟨m.Lb,0,none⟩))) (fun wy hy=>(x.o.blk.keeps hy (by decide)).cell 2);have S0:=Qa (SK.o _ (Qd.Qe bR.drew G));have y:=Qa l;clear htu l hc;generalize (Qn s).length=nr at*
   go_upto_region 2 with fail
   go_region_held3 (fun wy=>wy.cell? ⟨Sb,2,none⟩=some (.pointer (some ⟨m.Lb,0,none⟩)))
    (first|exact SK.o _ O.o|exact SK.o _ (Qd.Qe a6.o G)|exact S0.o)
    (first
     |(go_at_call 64;refine(U.o _ bR.drew).mono ?_;rintro en w3 ⟨L,A3,c3,rfl,hR⟩;(have HR:=Qa hR);(have a6:Qb (Below wc.heap.size wc w3):=bR.drew.trans hR.below);clear hR)
     |(go_at_call 63;refine(ad.o _ _ _ _ _ bR.drew HR.o).mono ?_;rintro en w4 ⟨rfl,X,Q⟩;(have W:=Qa X);(have O:=Qa Q);clear X Q))
   have k9:=Qa (Y.o.trans (O.o.mono nR (ts':=[121,165,167,216,137,129]) (by simp)));by_cases he2:e2=0
   ·subst he2;go_wp2_with fail;go_meet;exact⟨{ s with d:=d2,log:=l2 },W.o,k9.o,y.o,hse,hp,by show l2.epoch<549755813888;omega⟩
   have af:((e2:Int) != 0)=true:=by simp;omega
   have b:q=(e2,0,{ s with d:=d2,log:=l2 }):=by
    rw[y.o];cases e2 with
    |zero=>exact absurd rfl he2
    |succ e=>rfl
   have r:=Qa b;clear b;go_wp2_with fail;go_ret2;rw[r.o];exact⟨rfl,W.o,k9.o⟩
  have l:q=Cp s:=by rw[HQ.o,if_neg hc]
  have E:bq=false:=by rw[Z.o];exact decide_eq_false hc
  subst E;have y:=Qa l;clear l hc;go_wp2_with fail;go_meet;exact⟨s,x.o,Y.o,y.o,hse,hp,by omega⟩
 obtain⟨s2,f,N,V,e2,p2,l2⟩:=hcut;have S:=Qa f;have aa:=Qa N;have B:=Qa V;have K:=f.blk.lt;have C:=f.lt;obtain⟨a2,a7,a8⟩:wc.cell? ⟨Sb,2,none⟩=some (.pointer (some ⟨m.Lb,0,none⟩))∧wc.cell? ⟨Sb,7,none⟩=some (.int .i64 s2.epoch)∧wc.cell? ⟨Sb,8,none⟩=some (.int .i64 s2.QA):=⟨f.blk.cell 2,f.blk.cell 7,f.blk.cell 8⟩;have r2:=cell_regrown a2;have r7:=cell_regrown a7;have j:=@Qa (∀wy,Below wc.heap.size wc wy→Calls prog 159 #[.pointer (some ⟨m.Lb,0,none⟩)] wy fun e w'=>e=.returned (.int .i64 (s2.log.epoch:Nat))∧wy=w') (fun wy hy=>WK (S.o.below hy).log)
 have i:∀d os,Calls prog 159 #[.pointer (some ⟨m.Lb,0,none⟩)] (grow (redrawn wc d) os) fun en w''=>en=.returned (.int .i64 (s2.log.epoch:Nat))∧∃p:Regrown,w''=grow (redrawn wc p.d) p.os:=fun d os=>
  Calls.regrown_of ((j.o _ (below_regrown wc d os)).mono fun _ _ ⟨h1,h2⟩=>⟨h1,h2▸bR⟩)
 clear f N V;go_upto_region 5 with fail;refine wp_region_quiet_below (by kernel_rfl) (by kernel_rfl) ?_
 repeat (go_big_quiet_step (exact i _ _))
 refine wpQuiet_nil ?_;intro _ hw';obtain⟨⟨dq,k⟩,n⟩:=hw';subst n;have u:=below_regrown wc dq k;have h6:=S.o.below u;have a:=Qa h6;have P:=Qa (aa.o.trans (Qd.Qe (base:=base) (ts:=[121,165,167,216,137,129]) u C));have J:=@Qa (∀wy,Below (grow (redrawn wc dq) k).heap.size (grow (redrawn wc dq) k) wy→Calls prog 159 #[.pointer (some ⟨m.Lb,0,none⟩)] wy fun e w'=>e=.returned (.int .i64 (s2.log.epoch:Nat))∧wy=w') (fun wy hy=>j.o wy (u.trans (hy.mono u.size)));clear r2 r7 i a2 a7 a8 u h6 C K;generalize grow (redrawn wc dq) k=w6 at*
 have R:=a.o.blk.lt;have f7:=a.o.blk.free 7;have f8:=a.o.blk.free 8;obtain⟨b2,b7,b8⟩:w6.cell? ⟨Sb,2,none⟩=some (.pointer (some ⟨m.Lb,0,none⟩))∧w6.cell? ⟨Sb,7,none⟩=some (.int .i64 s2.epoch)∧w6.cell? ⟨Sb,8,none⟩=some (.int .i64 s2.QA):=⟨a.o.blk.cell 2,a.o.blk.cell 7,a.o.blk.cell 8⟩;by_cases hne:s2.epoch=s2.log.epoch
 ·have T:((s2.epoch:Int) != (s2.log.epoch:Int))=false:=by simp[hne]
  have b:q=(0,(s2.epoch:Int)*1048576+((s2.QA:Int)+1),{ s2 with QA:=s2.QA+1 }):=by
   rw[B.o];unfold Cp;simp[hne]
  have r:=Qa b;clear b hne B;go_upto_region 8 with fail;obtain⟨h9,k9⟩:=a.o.DW (s2.QA+1);rw[Int.natCast_add]at h9 k9;have H9:=Qa h9;have K9:=Qa (P.o.trans (k9.mono nR (ts':=[121,165,167,216,137,129]) (by simp)));have c7:(w6.setCell ⟨Sb,8,none⟩ (.int .i64 ((s2.QA:Int)+1))).cell? ⟨Sb,7,none⟩=some (.int .i64 s2.epoch):=h9.blk.cell 7;have c8:(w6.setCell ⟨Sb,8,none⟩ (.int .i64 ((s2.QA:Int)+1))).cell? ⟨Sb,8,none⟩=some (.int .i64 ((s2.QA:Int)+1)):=h9.blk.cell 8;have l9:Sb<(w6.setCell ⟨Sb,8,none⟩ (.int .i64 ((s2.QA:Int)+1))).heap.size:=h9.blk.lt;have H:=h9.lt;have q1:IntKind.i64.wrap ((s2.epoch:Int)*1048576)=(s2.epoch:Int)*1048576:=by rw[IntKind.wrap_i64];omega
  have q2:IntKind.i64.wrap ((s2.epoch:Int)*1048576+((s2.QA:Int)+1))=(s2.epoch:Int)*1048576+((s2.QA:Int)+1):=by rw[IntKind.wrap_i64];omega
  clear h9 k9 b2 b7 b8 f7 f8 R;generalize w6.setCell ⟨Sb,8,none⟩ (.int .i64 ((s2.QA:Int)+1))=w9 at*
  go_quiet (fail)
  go_wp2_with fail;go_ret2;rw[r.o];exact⟨rfl,H9.o.below (QK bR _),K9.o.trans (Qd.Qe (QK bR _) H)⟩
 have T:((s2.epoch:Int) != (s2.log.epoch:Int))=true:=by simp;omega
 have b:q=(0,(s2.log.epoch:Int)*1048576+1,{ s2 with epoch:=s2.log.epoch,QA:=1 }):=by
  rw[B.o];unfold Cp;simp[hne]
 have r:=Qa b;clear b hne B;go_upto_region 7 with(go_at_call 159;refine(J.o _ bR).mono ?_;rintro en w' ⟨rfl,rfl⟩);obtain⟨h9,k9⟩:=a.o.DJ s2.log.epoch 0;have hz:((0:Nat):Int)=0:=rfl;rw[hz]at h9 k9;have K9:=Qa (P.o.trans (k9.mono nR (ts':=[121,165,167,216,137,129]) (by simp)));have H9:=Qa h9;have g8:=h9.blk.free 8;have e8:((w6.setCell ⟨Sb,7,none⟩ (.int .i64 s2.log.epoch)).setCell ⟨Sb,8,none⟩ (.int .i64 0)).cell? ⟨Sb,8,none⟩=some (.int .i64 0):=h9.blk.cell 8;have l9:=h9.blk.lt;clear h9 k9 b2 b7 b8 f7 f8 R hz;generalize (w6.setCell ⟨Sb,7,none⟩ (.int .i64 s2.log.epoch)).setCell ⟨Sb,8,none⟩ (.int .i64 0)=w8 at*
 go_upto_region 8 with fail;obtain⟨g,I⟩:=H9.o.DW 1;have hz:((1:Nat):Int)=1:=rfl;rw[hz]at g I;have ab:=Qa g;have a4:=Qa (K9.o.trans (I.mono nR (ts':=[121,165,167,216,137,129]) (by simp)));have c7:(w8.setCell ⟨Sb,8,none⟩ (.int .i64 1)).cell? ⟨Sb,7,none⟩=some (.int .i64 s2.log.epoch):=g.blk.cell 7;have c8:(w8.setCell ⟨Sb,8,none⟩ (.int .i64 1)).cell? ⟨Sb,8,none⟩=some (.int .i64 1):=g.blk.cell 8;have ah:Sb<(w8.setCell ⟨Sb,8,none⟩ (.int .i64 1)).heap.size:=g.blk.lt;have H:=g.lt;have q1:IntKind.i64.wrap ((s2.log.epoch:Int)*1048576)=(s2.log.epoch:Int)*1048576:=by rw[IntKind.wrap_i64];omega
 have q2:IntKind.i64.wrap ((s2.log.epoch:Int)*1048576+1)=(s2.log.epoch:Int)*1048576+1:=by rw[IntKind.wrap_i64];omega
 clear g I g8 e8 l9 hz;generalize w8.setCell ⟨Sb,8,none⟩ (.int .i64 1)=w9 at*
 go_quiet (fail)
 go_wp2_with fail;go_ret2;rw[r.o];exact⟨rfl,ab.o.below (QK bR _),a4.o.trans (Qd.Qe (QK bR _) H)⟩
end Go.Proofs.YtmgmfnimaafkdaaGreatDoor
