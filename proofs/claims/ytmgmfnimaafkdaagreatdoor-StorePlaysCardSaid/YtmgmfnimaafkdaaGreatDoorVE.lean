/- DERIVED: THE SHELF's CONTRACTS AT THIS DUMP, IN PLAIN WORDS (tools/lay-plain.mjs out of 'YtmgmfnimaafkdaaGreatDoorTL.lean', which tools/lay-shelf.mjs wrote): THE SAME DECLARATIONS UNDER THE SAME NAMES: 'import', 'namespace', 'open', 'def', 'theorem' AND NOTHING ELSE: no command of the shelf's: FOR A HAND-IN. Each laying: the table of numbers ('.._ren') and one theorem, a field a fact of the dump's own or the kernel's comparison; each contract: ONE APPLICATION. -/
import Derived.Test.YtmgmfnimaafkdaaGreatDoorVD
import Derived.DeepKeys4
import Derived.Lib.AppendIntMem
import Derived.RangeFuncNested
import Derived.RangeFuncBound
import Derived.RangeFuncCalls
import Derived.RangeFuncLeaves
import Derived.Shelf.Abstract
import Derived.Shelf.RegionOpen
import Derived.OwnWalkIn
import Derived.TacticsInMore
import Derived.LoopNIn
import Derived.LoopIn
import Derived.Sort.MapsRangeIn
import Derived.RegionIn
import Derived.Shelf.SlSortCmp.NoneTotal
import Derived.Shelf.LaysC
import Derived.Shelf.SlIterI.Nil
import Derived.Shelf.SortM.Plain
import Derived.Shelf.SortM.SortNone
import Derived.Shelf.Strings.Search3
import Derived.Shelf.Strconv.ParseIntPublic10
set_option maxRecDepth 100000
set_option maxHeartbeats 0
namespace Go.Proofs.YtmgmfnimaafkdaaGreatDoor
open Tryz
open Go.RowKit Go.Maps
variable {B Lb base:Nat} {l:QD}
theorem Dj{w:World}(h:Yw w base Lb B l):Calls prog 59 #[.pointer (some ⟨Lb,0,none⟩)] w fun e w'=>∃L:List Kx,L.map (·.1)=l.Qo∧UU w w' L e:=by
 obtain⟨L,A,c,h⟩:=h;have a0:=h.blk.lt;have e7:w.cell? ⟨Lb,7,none⟩=some (.slice A l.Qo.length c):=h.blk.cell 7;have hl:L.length=l.Qo.length:=by have:=congrArg List.length h.rcs;simpa using this
 have ho:=h.own;rw[←hl]at e7 ho;have HC:=Qa (ZC L A c (Sl.Jl ho) h.OM (by rw[hl];exact h.b7));have HR:=Qa h.rcs;clear h ho hl;go_enter func59,ntmps59;go_wp2_with (go_at_call 113;refine HC.o.mono ?_;rintro en w2 ⟨⟨L',A',c',rfl,h1⟩,h2⟩);go_ret;exact⟨L,HR.o,⟨L',A',c',rfl,h1⟩,h2⟩
def W7(w w':World)(base Lb B:Nat)(r:Nat × Qq × QD)(e:Ending):Prop:=e=.returned (.int .i64 r.1)∧Yw w' base Lb B r.2.2∧VK w' base B r.2.1∧Qd base [121,165,167,216,137] w w'
variable {w':World}
theorem JR{w:World}{ts:List TypeId}(h:Qd base ts w w')(ht:∀t∈ts,t∈[121,165,167,216,137]):Qd base [121,165,167,216,137] w w':=h.mono nR ht
variable {a k n:Nat} {b:List UInt8} {d d':Qq}
theorem FQ{m:Nat}(h:KN d a k m b=(n,0,d')):n=Qf d.size b.length:=by
 unfold KN at h;split at h
 ·simp at h
 split at h
 ·simp at h
 cases hg:Vl k m b d.size a (Qf d.size b.length) 0 d with
 |mk e1 d1=>
  rw[hg]at h;cases e1 with
  |zero=>injection h with h _;exact h.symm
  |succ e1=>injection h with _ h;injection h with h _;exact absurd h (by simp)
theorem L8(e n:Nat)(he:e<549755813888)(hn:n≤1000000):e*J6+n+1<2^63:=by
 have h:J6=1048576:=rfl;rw[h];have:(2:Nat)^63=9223372036854775808:=by decide
 rw[this];omega
theorem TO(e n:Nat)(he:e<549755813888)(hn:n≤1000000):((e*J6+n+1:Nat):Int)=IntKind.i64.wrap (IntKind.i64.wrap (IntKind.i64.wrap ((e:Int)*1048576)+(n:Int))+1):=by
 have h:J6=1048576:=rfl;have h1:IntKind.i64.wrap ((e:Int)*1048576)=(e:Int)*1048576:=by rw[IntKind.wrap_i64];omega
 have h2:IntKind.i64.wrap ((e:Int)*1048576+(n:Int))=(e:Int)*1048576+(n:Int):=by rw[IntKind.wrap_i64];omega
 have h3:IntKind.i64.wrap ((e:Int)*1048576+(n:Int)+1)=(e:Int)*1048576+(n:Int)+1:=by rw[IntKind.wrap_i64];omega
 rw[h1,h2,h3,h];omega
theorem Dl{w:World}(hL:Yw w base Lb B l)(hD:VK w base B d)(hs:J9 w)(hb2:2<base)(hat:l.at'≤l.begin l.use+l.half)(hw:d.waits.length+65536<2^40)(hsz:l.size=d.size)
  (r:QN)(hk:r.1<256)(A:Option Addr)(c:Nat)(hb:Kb w A r.2)(hn:r.2.length<1099511627776)(hc:r.2.length≤c):
  Calls prog 129 #[.pointer (some ⟨Lb,0,none⟩),.agg #[.int .u8 r.1,.slice A r.2.length c]] w fun e w'=>W7 w w' base Lb B (VN d l r) e:=by
 have D:base≤w.heap.size:=by obtain⟨L,A',c',h⟩:=hL;have:=h.low;have:=h.blk.lt;omega
 have Z:Below w.heap.size w (w.alloc (.cells #[.int .u8 r.1,.slice A r.2.length c] 137)):=bR.alloc nR _;have a5:=Qh.new w 137 #[.int .u8 r.1,.slice A r.2.length c];have g:=Qa Z;have x:=Qa a5;have HL:=Qa hL;have HD:=Qa hD;have HS:=Qa hs;have ab:=Qa hb;obtain⟨q,hq⟩:=eX (VN d l r);rw[←hq];unfold VN at hq;clear Z a5 hL hD hs hb;by_cases h1:4000<r.2.length
 ·rw[if_pos h1]at hq;subst hq;have az:(4000:Int)<r.2.length:=by omega
  go_enter func129,ntmps129;go_wp2_with fail;go_ret;exact⟨rfl,HL.o.below g.o,HD.o.below g.o,Qd.Qe g.o D⟩
 rw[if_neg h1]at hq;have HN:=@Qa (∀wy,Below w.heap.size w wy→Calls prog 122 #[.pointer (some ⟨Lb,0,none⟩),.agg #[.int .u8 r.1,.slice A r.2.length c]] wy fun e w'=>e=.returned (.int .i64 (l.Jb r:Nat))∧Below wy.heap.size wy w') (fun wy hy=>Nu (HL.o.below hy) r A c hn);have HF:=@Qa (∀wy,Below w.heap.size w wy→Calls prog 174 #[.pointer (some ⟨Lb,0,none⟩)] wy fun e w'=>e=.returned (.int .i64 (l.left:Nat))∧Below wy.heap.size wy w') (fun wy hy=>FZ (HL.o.below hy) hat);have HQ:=Qa hq;have az:¬(4000:Int)<r.2.length:=by omega
 have aP:l.left≤262144:=by
  obtain⟨L,A',c',h⟩:=HL.o;have:=h.b1;have:=h.b2;have:=YZ l.use l.half h.b4;unfold QD.left QD.begin;omega
 have aM:l.Jb r≤1099511627776:=by
  unfold QD.Jb Qf;split
  ·omega
  have:(1+r.2.length+(l.size-18)-1)/(l.size-18)≤1+r.2.length+(l.size-18)-1:=Nat.div_le_self _ _;have h2:l.size≤65536:=by obtain⟨L,A',c',h⟩:=HL.o;exact h.b3
  omega
 clear hq;generalize hnre:l.Jb r=nr at*
 generalize hlfe:l.left=lf at*
 obtain⟨L,AL,cL,s⟩:=HL.o;have p:=s.blk.lt;have E:=s.low;have b5:=s.b5;have b6:=s.b6;have b7:=s.b7
 have SK:=@Qa (∀wy,Below w.heap.size w wy→wy.cell? ⟨Lb,0,none⟩=some (.pointer (some ⟨B,0,none⟩))∧wy.cell? ⟨Lb,6,none⟩=some (.int .i64 l.at')∧wy.cell? ⟨Lb,5,none⟩=some (.int .i64 l.epoch)∧wy.cell? ⟨Lb,7,none⟩=some (.slice AL l.Qo.length cL)) (fun wy hy=>by
  have hb:=s.blk.below hy p;exact⟨hb.cell 0,hb.cell 6,hb.cell 5,hb.cell 7⟩)
 have i:=Qa s;clear s;by_cases g1:lf<nr
 ·have k:q=(5,d,l):=by rw[HQ.o,if_pos (.inl g1)]
  subst k;go_enter func129,ntmps129
  go_wp2_with (first
   |(go_at_call 122;refine(HN.o _ g.o).mono ?_;rintro en w2 ⟨rfl,f⟩;(have j:=Qa (g.o.trans (f.mono g.o.size)));(have m:=Qa (x.o.below f x.o.lt));clear f)
   |(go_at_call 174;refine(HF.o _ j.o).mono ?_;rintro en w3 ⟨rfl,b⟩;(have a:=Qa (j.o.trans (b.mono j.o.size)));(have I:=Qa (m.o.below b m.o.lt));(have e7:=(SK.o _ a.o).2.2.2);(have ao:=Nat.lt_of_lt_of_le p a.o.size);clear b))
  go_ret;exact⟨rfl,HL.o.below a.o,HD.o.below a.o,Qd.Qe a.o D⟩
 by_cases g2:l.Qo.length=1000000
 ·have k:q=(5,d,l):=by rw[HQ.o,if_pos (.inr g2)]
  have av:((l.Qo.length:Int)==1000000)=true:=by simp;omega
  subst k;clear g2;go_enter func129,ntmps129
  go_wp2_with (first
   |(go_at_call 122;refine(HN.o _ g.o).mono ?_;rintro en w2 ⟨rfl,f⟩;(have j:=Qa (g.o.trans (f.mono g.o.size)));(have m:=Qa (x.o.below f x.o.lt));clear f)
   |(go_at_call 174;refine(HF.o _ j.o).mono ?_;rintro en w3 ⟨rfl,b⟩;(have a:=Qa (j.o.trans (b.mono j.o.size)));(have I:=Qa (m.o.below b m.o.lt));(have e7:=(SK.o _ a.o).2.2.2);(have ao:=Nat.lt_of_lt_of_le p a.o.size);clear b))
  go_ret;exact⟨rfl,HL.o.below a.o,HD.o.below a.o,Qd.Qe a.o D⟩
 have av:((l.Qo.length:Int)==1000000)=false:=by simp;omega
 have G2:=Qa g2;obtain⟨n,er,d',hput⟩:∃n er d',KN d l.at' 82 (l.epoch*J6+l.Qo.length+1) (J7 r)=(n,er,d'):=⟨_,_,_,rfl⟩;have k:q=match ((n,er,d'):Nat × Nat × Qq)with|(n,0,d')=>(0,d',{ l with at':=l.at'+n,Qo:=l.Qo++[r] })|(_,e,d')=>(e,d',l):=by
  rw[HQ.o,if_neg (by omega),hput];cases er<;>rfl
 have a6:=Qa k;have af:((l.epoch*J6+l.Qo.length+1:Nat):Int)=IntKind.i64.wrap (IntKind.i64.wrap (IntKind.i64.wrap ((l.epoch:Int)*1048576)+(l.Qo.length:Int))+1):=TO _ _ b5 b7;have R:(J7 r).length=1+r.2.length:=by unfold J7;simp;omega
 have aq:=@Qa (∀wy,Below w.heap.size w wy→Calls prog 166 #[.agg #[.int .u8 r.1,.slice A r.2.length c]] wy fun e w'=>(∃A' c',e=.returned (.slice A' (J7 r).length c')∧Kb w' A' (J7 r)∧(J7 r).length≤c')∧Below wy.heap.size wy w') (fun wy hy=>Tw r hk A c (ab.o.below hy) hn)
 have a1:=@Qa (∀wy A' c',Below w.heap.size w wy→Kb wy A' (J7 r)→(J7 r).length≤c'→Calls prog 107 #[.pointer (some ⟨B,0,none⟩),.int .i64 l.at',.int .u8 82,.int .i64 (IntKind.i64.wrap (IntKind.i64.wrap (IntKind.i64.wrap ((l.epoch:Int)*1048576)+(l.Qo.length:Int))+1)),.slice A' (J7 r).length c'] wy fun e w'=>e=.returned (.tuple #[.int .i64 n,.int .i64 er])∧VK w' base B d'∧Qd base [121,165,167] wy w') (fun wy A' c' hy h1 h2=>by
  have:=ZE (HD.o.below hy) (HS.o.below hy) hb2 l.at' 82 (l.epoch*J6+l.Qo.length+1) (by omega) (by decide) (L8 _ _ b5 b7) (J7 r) (by rw[R];omega) A' c' h1.D3 h2 hw;rw[af,hput]at this;exact this)
 have aE:=@Qa (er=0→n≤lf) (fun h0=>by rw[h0]at hput;rw[FQ hput,R,←hsz];show Qf l.size (1+r.2.length)≤lf;have:l.Jb r=Qf l.size (1+r.2.length):=rfl;omega);clear k hput af g2 R hsz;go_enter func129,ntmps129
 go_upto_region 5 with(first
  |(go_at_call 122;refine(HN.o _ g.o).mono ?_;rintro en w2 ⟨rfl,f⟩;(have j:=Qa (g.o.trans (f.mono g.o.size)));(have m:=Qa (x.o.below f x.o.lt));clear f)
  |(go_at_call 174;refine(HF.o _ j.o).mono ?_;rintro en w3 ⟨rfl,b⟩;(have a:=Qa (j.o.trans (b.mono j.o.size)));(have I:=Qa (m.o.below b m.o.lt));(have e7:=(SK.o _ a.o).2.2.2);(have ao:=Nat.lt_of_lt_of_le p a.o.size);clear b))
 have S1:=@Qa (∀wy,Qd base [121,165,167] w3 wy→(wy.cell? ⟨Lb,0,none⟩=some (.pointer (some ⟨B,0,none⟩))∧wy.cell? ⟨Lb,6,none⟩=some (.int .i64 l.at')∧wy.cell? ⟨Lb,5,none⟩=some (.int .i64 l.epoch)∧wy.cell? ⟨Lb,7,none⟩=some (.slice AL l.Qo.length cL))∧wy.cell? ⟨w.heap.size,0,none⟩=some (.int .u8 r.1)∧wy.cell? ⟨w.heap.size,1,none⟩=some (.slice A r.2.length c)) (fun wy hy=>by
  have hb:=(i.o.blk.below a.o p).keeps hy (by decide);have hx:=I.o.keeps hy (by decide);exact⟨⟨hb.cell 0,hb.cell 6,hb.cell 5,hb.cell 7⟩,hx.cell 0,hx.cell 1⟩)
 have S0:=Qa (S1.o _ (Qd.Qe bR.drew (by have:=a.o.size;omega)));clear e7
 go_region_held3 (fun wy=>(wy.cell? ⟨Lb,0,none⟩=some (.pointer (some ⟨B,0,none⟩))∧wy.cell? ⟨Lb,6,none⟩=some (.int .i64 l.at')∧wy.cell? ⟨Lb,5,none⟩=some (.int .i64 l.epoch)∧wy.cell? ⟨Lb,7,none⟩=some (.slice AL l.Qo.length cL))∧wy.cell? ⟨w.heap.size,0,none⟩=some (.int .u8 r.1)∧wy.cell? ⟨w.heap.size,1,none⟩=some (.slice A r.2.length c))
  (first|exact S1.o _ U.o|exact S1.o _ a4.o|exact S0.o)
  (first
   |(go_at_call 166;refine(aq.o _ (a.o.trans (bR.drew.mono a.o.size))).mono ?_;rintro en w4 ⟨⟨A4,c4,rfl,aj,aH⟩,X⟩;(have aA:Qb (Below w.heap.size w w4):=a.o.trans ((bR.drew.trans X).mono a.o.size));(have a4:Qb (Qd base [121,165,167] w3 w4):=Qd.Qe (bR.drew.trans X) (Nat.le_trans D a.o.size));(have ax:=Qa aj);clear aj X)
   |(go_at_call 107;refine(a1.o w4 A4 c4 aA.o ax.o aH).mono ?_;rintro en w5 ⟨rfl,an,ae⟩;(have ad:=Qa an);(have U:=Qa (a4.o.trans ae));clear an ae))
 have KW:=Qa ((Qd.Qe (ts:=[121,165,167]) a.o D).trans U.o);by_cases he:er=0
 ·subst he;have aU:l.Qo.length+1≤1000000:=by have:=G2.o;omega
  have k:q=(0,d',{ l with at':=l.at'+n,Qo:=l.Qo++[r] }):=a6.o;subst k;have aO:=aE.o rfl;have aT:l.at'+lf≤262144:=by
   have:l.left=l.begin l.use+l.half-l.at':=rfl;have:=i.o.b1;have:=i.o.b2;have:=YZ l.use l.half i.o.b4;have:l.begin l.use=l.Ky+l.use*l.half:=rfl;omega
  have Y:=i.o.keeps KW.o (by decide) (by decide) (by decide);have K:=Y.blk;have aQ:=K.lt;have c6:w5.cell? ⟨Lb,6,none⟩=some (.int .i64 l.at'):=K.cell 6;have f6:=K.free 6;have y:=Qa Y;have ai:=Qa (I.o.keeps U.o (by decide));have aR:w.heap.size≤w5.heap.size:=KW.o.below.size;have aW:w.heap.size<w5.heap.size:=ai.o.lt;clear Y K;go_upto_region 9 with fail;have aa:((l.at'+n:Nat):Int)=(l.at':Int)+(n:Int):=by omega
  have G:Qh (w5.setCell ⟨Lb,6,none⟩ (.int .i64 ((l.at':Int)+(n:Int)))) Lb 216 #[.pointer (some ⟨B,0,none⟩),.int .i64 l.Ky,.int .i64 l.half,.int .i64 l.size,.int .i64 l.use,.int .i64 l.epoch,.int .i64 ((l.at':Int)+(n:Int)),.slice AL l.Qo.length cL]:=y.o.blk.set 6 _;have u:Qd base [216] w5 (w5.setCell ⟨Lb,6,none⟩ (.int .i64 ((l.at':Int)+(n:Int)))):=(Qd.refl base _ w5).set y.o.blk E (by simp) _;have ak:(w5.setCell ⟨Lb,6,none⟩ (.int .i64 ((l.at':Int)+(n:Int)))).heap.size=w5.heap.size:=by simp
  generalize w5.setCell ⟨Lb,6,none⟩ (.int .i64 ((l.at':Int)+(n:Int)))=w6 at*
  have H:=ai.o.keeps u (by decide);have ac:=QF y.o.own u (by decide);have O:Yj w6 L:=y.o.OM.keeps u (by decide);have ah:Kb w6 A r.2:=(ab.o.keeps KW.o (by decide)).keeps u (by decide);have au:=Qa (((JR KW.o (by simp)).trans (JR u (by simp))));have d6:VK w6 base B d':=ad.o.keeps u (by decide) (by decide) (by decide) (by decide) (by decide);have am:L.length=l.Qo.length:=by have:=congrArg List.length y.o.rcs;simpa using this
  -- the record, FM
  have Q:Below w6.heap.size w6 (w6.alloc (.cells #[.int .u8 r.1,.slice A r.2.length c] 137)).drew:=(bR.alloc nR _).drew;have ag:=ZC (w:=(w6.alloc (.cells #[.int .u8 r.1,.slice A r.2.length c] 137)).drew) [((r.1,r.2),A,c)] (some ⟨w6.heap.size,0,none⟩) 1 (Sl.Ja (Qh.WD rfl) rfl) (fun z hz=>by rw[List.mem_singleton]at hz;subst hz;exact⟨ah.below Q,hc,hk,hn⟩) (by simp);have aC:=@Qa (Calls prog 113 #[.slice (some ⟨w6.heap.size,0,none⟩) 1 1] (w6.alloc (.cells #[.int .u8 r.1,.slice A r.2.length c] 137)).drew (fun e w'=>UU (w6.alloc (.cells #[.int .u8 r.1,.slice A r.2.length c] 137)).drew w' [((r.1,r.2),A,c)] e)) (ag);have aL:=Qa ak;have a2:=Qa Q;have W:=Qa G;have ay:=Qa ac;have a8:=Qa O;have aI:=Qa d6;have aV:=Qa am;have c7:w6.drew.cell? ⟨Lb,7,none⟩=some (.slice AL l.Qo.length cL):=G.cell 7;have aK:(w6.alloc (.cells #[.int .u8 r.1,.slice A r.2.length c] 137)).cell? ⟨Lb,7,none⟩=some (.slice AL l.Qo.length cL):=(G.alloc _).cell 7;have x0:w6.drew.cell? ⟨w.heap.size,0,none⟩=some (.int .u8 r.1):=H.cell 0;have x1:w6.drew.cell? ⟨w.heap.size,1,none⟩=some (.slice A r.2.length c):=H.cell 1;have S:Lb<w6.drew.heap.size:=G.lt;have aN:w.heap.size<w6.drew.heap.size:=H.lt;have v:base≤w6.heap.size:=by omega
  obtain⟨i0,aw,aB,aF,aD⟩:=info_parts Wv;clear ak G u H ac O ah d6 ag Q am c6 f6;go_upto_region 9 with fail
  go_region_law (first
   |(go_simp;go_at_call 113;refine aC.o.mono ?_;rintro en w7 ⟨⟨L2,A2,c2,rfl,a7,a9,N,aS⟩,M⟩;(have ap:=Qa a7);(have ar:=Qa a9);(have a3:=Qa N);(have t:=Qa (a2.o.trans (M.mono a2.o.size)));(have e7:w7.cell? ⟨Lb,7,none⟩=some (.slice AL l.Qo.length cL):=(W.o.below t.o S).cell 7);(have P:=Qa (QF ay.o (Qd.Qe t.o v) (by simp:137∉[])));(have aG:=Qa (Zy ap.o));clear a7 a9 N M)
   |(refine Q9 _ (by rfl) _ _ _ (by rfl) base 137 i0 _ 2 32 YX aw aB aF aD rfl (by decide) (.slice AL l.Qo.length cL) l.Qo.length (QI L) (by rfl) P.o A2 1 c2 _ (QI L2) (by rfl) aG.o (ZT _) (by unfold maxLen;omega) (by omega) (Nat.le_trans v t.o.size) ?_;intro A9 c9 w9 hown9 hgr9 hnc9;(have F:=(W.o.below t.o S).grown hgr9 (Xl P.o (W.o.below t.o S) (by decide)));(have e9:w9.cell? ⟨Lb,7,none⟩=some (.slice AL l.Qo.length cL):=F.cell 7);(have z9:=F.free 7);(have l9:=F.lt);(have al:=Qa F);(have V:=Qa hown9);(have a0:=Qa hgr9);clear hown9 hgr9 F))
  all_goals
   go_wp2_with fail;go_ret;have J:=Q7 P.o a0.o (Nat.le_trans v t.o.size);have C:Qd base [216] w9 (w9.setCell ⟨Lb,7,none⟩ (.slice A9 (l.Qo.length+1) c9)):=(Qd.refl base _ w9).set al.o E (by simp) _;have T:Qd base [] w6 w7:=Qd.Qe t.o v;refine⟨rfl,⟨L++L2,A9,c9,E, ?_, ?_, ?_, ?_,i.o.b1,i.o.b2,i.o.b3,i.o.b4,i.o.b5,by simp only;omega,by simp only[List.length_append,List.length_cons,List.length_nil];omega⟩,((aI.o.keeps T (by simp) (by simp) (by simp) (by simp) (by simp)).keeps J (by decide) (by decide) (by decide) (by decide) (by decide)).keeps C (by decide) (by decide) (by decide) (by decide) (by decide),((au.o.trans (JR T (by simp))).trans (JR J (by simp))).trans (JR C (by simp))⟩
   ·have:=al.o.set 7 (.slice A9 (l.Qo.length+1) c9);simp only[List.length_append,List.length_cons,List.length_nil,aa];exact this
   ·have:=QF V.o C (by decide);simp only[List.length_append,List.length_cons,List.length_nil,KU];exact this
   ·rw[List.map_append,i.o.rcs,ar.o];rfl
   intro z hz;rcases List.mem_append.1 hz with hz|hz
   ·exact(((a8.o.keeps T (by simp)).keeps J (by decide)).keeps C (by decide)) z hz
   exact((a3.o.keeps J (by decide)).keeps C (by decide)) z hz
 have k:q=(er,d',l):=by
  rw[a6.o];cases er with
  |zero=>exact absurd rfl he
  |succ e=>rfl
 have aJ:((er:Int) != 0)=true:=by simp;omega
 subst k;go_wp2_with fail;go_ret;exact⟨rfl,HL.o.keeps KW.o (by decide) (by decide) (by decide),ad.o,JR KW.o (by simp)⟩
end Go.Proofs.YtmgmfnimaafkdaaGreatDoor
namespace Go.Proofs.YtmgmfnimaafkdaaGreatDoor
open Tryz
open Go.RowKit Go.Maps
structure TH (w wr:World) (base B:Nat) (d:Qq) (sz ep a0:Nat) (rs:List QN) (j aj:Nat) (dj:Qq):Prop where
 Ul:VK wr base B dj
 keep:Qd base [121,165,167] w wr
 same:dj.size=d.size∧dj.Qk.length=d.Qk.length∧dj.waits.length≤d.waits.length+j*65536
 go:JB sz ep rs 0 a0 d=JB sz ep (rs.drop j) j aj dj
 ab:aj≤262144
variable {a e k n:Nat} {b:List UInt8} {d d':Qq}
theorem Iu{m:Nat}(hl:d.Qk.length≤65536)(h:KN d a k m b=(n,e,d')):d'.size=d.size∧d'.Qk.length=d.Qk.length∧d'.waits.length≤d.waits.length+65536:=by
 have h:=(Zk (P:=fun _=>True) (fun _=>trivial) hl h).like;exact⟨h.1.1,h.1.2.1,h.2⟩
theorem LS{m:Nat}(h:KN d a k m b=(n,0,d')):a+n≤d.Qk.length:=by
 have hn:=FQ h;unfold KN at h;split at h
 ·simp at h
 split at h
 ·simp at h
 omega
variable {B a0 aj base ep j sz:Nat} {dj:Qq} {rs tl:List QN} {w5 wr:World}
theorem TH.next{w:World}(h:TH w wr base B d sz ep a0 rs j aj dj)(hl:d.Qk.length≤65536){r:QN}(hr:rs.drop j=r::tl)
  (hp:KN dj aj 82 (ep*J6+j+1) (J7 r)=(n,0,d'))(hd:VK w5 base B d')(hk:Qd base [121,165,167] wr w5):TH w w5 base B d sz ep a0 rs (j+1) (aj+n) d':=by
 obtain⟨s1,s2,s3⟩:=h.same;obtain⟨t1,t2,t3⟩:=Iu (by rw[s2];exact hl) hp;have a1:=LS hp;refine⟨hd,h.keep.trans hk,⟨t1.trans s1,t2.trans s2,by omega⟩, ?_,by omega⟩;have h1:rs.drop (j+1)=tl:=by rw[←List.drop_drop,hr];rfl
 rw[h.go,hr,h1]
 conv=>lhs;unfold JB
 rw[hp];rfl
theorem TH.fail{w:World}(h:TH w wr base B d sz ep a0 rs j aj dj){r:QN}(hr:rs.drop j=r::tl)
  (hp:KN dj aj 82 (ep*J6+j+1) (J7 r)=(n,e,d'))(he:e≠0):JB sz ep rs 0 a0 d=(e,aj,d'):=by
 rw[h.go,hr];unfold JB;rw[hp];cases e with
 |zero=>exact absurd rfl he
 |succ e=>rfl
structure TT (w wr:World) (base B:Nat) (d1:Qq) (a1 T j:Nat) (dj:Qq):Prop where
 Ul:VK wr base B dj
 keep:Qd base [121,165,167] w wr
 same:dj.size=d1.size∧dj.Qk.length=d1.Qk.length∧dj.waits.length≤d1.waits.length+j
 go:Vx T a1 d1=Vx (T-j) (a1+j) dj
def VT(l:QD)(hf ep bg aj:Nat)(rs:List QN):Nat × Qq→Nat × Qq × QD
 |(0,d2)=>match Q4 d2 with
  |(0,d3)=>match KN d3 bg 72 ep []with
   |(_,0,d4)=>match Q4 d4 with
    |(0,d5)=>(0,d5,{ l with use:=hf,epoch:=ep,at':=aj,Qo:=rs })
    |(e,d5)=>(e,d5,l)
   |(_,e,d4)=>(e,d4,l)
  |(e,d3)=>(e,d3,l)
 |(e,d2)=>(e,d2,l)
variable {bg hf:Nat} {d3 dk:Qq} {l:QD}
theorem CZ(h1:Q4 dk=(e,d3))(he:e≠0):VT l hf ep bg aj rs (0,dk)=(e,d3,l):=by
 cases e with
 |zero=>exact absurd rfl he
 |succ e=>simp only[VT,h1]
variable {d4:Qq}
theorem CO(h1:Q4 dk=(0,d3))(h2:KN d3 bg 72 ep []=(n,e,d4))(he:e≠0):VT l hf ep bg aj rs (0,dk)=(e,d4,l):=by
 cases e with
 |zero=>exact absurd rfl he
 |succ e=>simp only[VT,h1,h2]
variable {d5:Qq}
theorem CX(h1:Q4 dk=(0,d3))(h2:KN d3 bg 72 ep []=(n,0,d4))(h3:Q4 d4=(e,d5))(he:e≠0):VT l hf ep bg aj rs (0,dk)=(e,d5,l):=by
 cases e with
 |zero=>exact absurd rfl he
 |succ e=>simp only[VT,h1,h2,h3]
theorem CT(h1:Q4 dk=(0,d3))(h2:KN d3 bg 72 ep []=(n,0,d4))(h3:Q4 d4=(0,d5)):VT l hf ep bg aj rs (0,dk)=(0,d5,{ l with use:=hf,epoch:=ep,at':=aj,Qo:=rs }):=by
 simp only[VT,h1,h2,h3]
variable {T a1:Nat} {d1:Qq}
theorem TT.next{w:World}(h:TT w wr base B d1 a1 T j dj)(hj:j<T)(hq:Jz dj (a1+j) (List.replicate dj.size 0)=(0,d'))(hd:VK w5 base B d')(hk:Qd base [121,165,167] wr w5):TT w w5 base B d1 a1 T (j+1) d':=by
 obtain⟨s1,s2,s3⟩:=h.same;obtain⟨t1,t2⟩:=Of hq;refine⟨hd,h.keep.trans hk,⟨t1.1.trans s1,t1.2.1.trans s2,by omega⟩, ?_⟩;rw[h.go,show T-j=(T-(j+1))+1 by omega]
 conv=>lhs;unfold Vx
 rw[hq];rfl
theorem TT.fail{w:World}(h:TT w wr base B d1 a1 T j dj)(hj:j<T)(hq:Jz dj (a1+j) (List.replicate dj.size 0)=(e,d'))(he:e≠0):Vx T a1 d1=(e,d'):=by
 rw[h.go,show T-j=(T-(j+1))+1 by omega];unfold Vx;rw[hq];cases e with
 |zero=>exact absurd rfl he
 |succ e=>rfl
section
attribute [local go_sem ↓] Yl
variable {Lb:Nat}
theorem Mo{w:World}(hL:Yw w base Lb B l)(hD:VK w base B d)(hs:J9 w)(hb2:2<base)(hw:d.waits.length+137438953472<2^40)(hsz:l.size=d.size)(he:l.epoch+1<549755813888)
  (K:List Kx)(A:Option Addr)(c:Nat)(hK:w.ownsRow base 137 2 (.slice A K.length c) K.length (QI K))(hKb:Yj w K)(hKn:K.length≤1000000):
  Calls prog 112 #[.pointer (some ⟨Lb,0,none⟩),.slice A K.length c] w fun e w'=>W7 w w' base Lb B (Ku d l (K.map (·.1))) e:=by
 have b0:base≤w.heap.size:=by obtain⟨L,A',c',h⟩:=hL;have:=h.low;have:=h.blk.lt;omega
 have bo:16≤d.size∧d.size≤4096:=by obtain⟨m,h⟩:=hD;exact h.sz
 have aw:d.Qk.length≤65536:=by obtain⟨m,h⟩:=hD;exact h.n1.2
 obtain⟨L,AL,cL,a⟩:=hL;have p:=Qa a;have J:=a.blk.lt;have y:=a.low;have b1:=a.b1;have b2:=a.b2;have b4:=a.b4;obtain⟨q,hq⟩:=eX (Ku d l (K.map (·.1)));rw[←hq];unfold Ku at hq;simp only at hq;obtain⟨ep,ad⟩:=eX (l.epoch+1);obtain⟨hf,hhf⟩:∃hf,hf=1-l.use:=⟨_,rfl⟩;obtain⟨bg,a0⟩:=eX (l.begin hf);have bH:Qf l.size 0≤1:=by
  unfold Qf;split
  ·omega
  have:(0+(l.size-18)-1)/(l.size-18)=0:=Nat.div_eq_of_lt (by omega);rw[this];decide
 have bn:bg≤131072:=by
  have:=YZ hf l.half (by omega);have:l.begin hf=l.Ky+hf*l.half:=rfl;omega
 rw[←ad,←hhf,←a0]at hq;have bk:(l.epoch:Int)+1=(ep:Int):=by omega
 have bp:(1:Int)-(l.use:Int)=(hf:Int):=by omega
 have bb:=@Qa (∀wy,Below w.heap.size w wy→Calls prog 164 #[.pointer (some ⟨Lb,0,none⟩),.int .i64 hf] wy fun e w'=>e=.returned (.int .i64 bg)∧Below wy.heap.size wy w') (fun wy hy=>by
  have:=Za (show Yw wy base Lb B l from⟨L,AL,cL,a.below hy⟩) hf (by omega);rw[←a0]at this;exact this)
 have b7:=@Qa (∀wy,Calls prog 56 #[.int .i64 l.size,.int .i64 0] wy fun e w'=>e=.returned (.int .i64 (Qf l.size 0:Nat))∧wy=w') (fun wy=>JP l.size 0 (by have:=a.b3;omega) (by decide) wy);have e4:w.cell? ⟨Lb,4,none⟩=some (.int .i64 l.use):=a.blk.cell 4;have e5:w.cell? ⟨Lb,5,none⟩=some (.int .i64 l.epoch):=a.blk.cell 5;have b5:=a.b5;have HQ:=Qa hq;have HD:=Qa hD;have HS:=Qa hs;have HK:=Qa hK;have ao:=Qa hKb;have bd:=Qa hhf;have ba:=Qa ad;have bl:=Qa a0;have aT:=Qa hsz;generalize hnde:Qf l.size 0=nd at*
 clear hq hD hs hK hKb a hhf ad a0 hsz hnde;go_enter func112,ntmps112;go_upto_region 1 with fail
 go_quiet (fail)
 have a1:Qb (Below w.heap.size w (w.drewN nq)):=QK bR nq;generalize w.drewN nq=w1 at*
 have e3:w1.cell? ⟨Lb,3,none⟩=some (.int .i64 l.size):=(p.o.blk.below a1.o J).cell 3
 go_wp2_with (first
  |(go_at_call 164;refine(bb.o _ a1.o).mono ?_;rintro en w2 ⟨rfl,a9⟩;(have a3:=Qa (a1.o.trans (a9.mono a1.o.size)));(have bf:w2.cell? ⟨Lb,3,none⟩=some (.int .i64 l.size):=(p.o.blk.below a3.o J).cell 3);(have bh:=Nat.lt_of_lt_of_le J a3.o.size);clear a9)
  |(go_at_call 56;refine(b7.o _).mono ?_;rintro en w' ⟨rfl,rfl⟩))
 clear e3 bf e4 e5;go_loopw [8,41] (fun av i wr=>∃(j aj:Nat)(dj:Qq),j≤K.length∧i=.int .i64 (j:Nat)∧av=.int .i64 (aj:Nat)∧TH w wr base B d l.size ep (bg+nd) (K.map (·.1)) j aj dj) (fun _ i _=>K.length-(intOf i).toNat)
 case atStart=>exact⟨0,bg+nd,d,Nat.zero_le _,rfl,by rw[Int.natCast_add],HD.o.below a3.o,Qd.Qe a3.o b0,⟨rfl,rfl,by omega⟩,rfl,by omega⟩
 obtain⟨j,aj,dj,hj,rfl,rfl,hp⟩:=hrel;have HP:=Qa hp;have V:=hp.keep;have bC:=hp.ab;have R:=hp.same;have bO:w.heap.size≤wr.heap.size:=V.below.size;have ak:=p.o.keeps V (by decide) (by decide) (by decide);have aS:=ak.blk.lt;have Q:=Qa ak;clear ak hp;by_cases hjl:j<K.length
 ·have a4:=QF HK.o V (by decide);obtain⟨b,o,hA,bx,c1,c2⟩:=(Sl.Jl a4).Dg j hjl rfl;obtain⟨y1,y2,y3,y4⟩:=ao.o (K[j]) (List.getElem_mem _);have y1:=y1.keeps V (by decide);have bq:(j:Int)<K.length:=by omega
  have aC:(K.map (·.1)).drop j=K[j].1::(K.map (·.1)).drop (j+1):=by
   rw[List.drop_eq_getElem_cons (by simpa using hjl),List.getElem_map]
  have am:=Qa aC;subst hA;clear aC a4;generalize K[j]=x at*
  obtain⟨r,Bx,cb⟩:=x;simp only at y1 y2 y3 y4 c1 c2;obtain⟨n,er,d',hput⟩:∃n er d',KN dj aj 82 (ep*J6+j+1) (J7 r)=(n,er,d'):=⟨_,_,_,rfl⟩;have an:(J7 r).length=1+r.2.length:=by unfold J7;simp;omega
  have az:=TO ep j (by omega) (by omega);have aU:=@Qa (∀wy,Below wr.heap.size wr wy→Calls prog 166 #[.agg #[.int .u8 r.1,.slice Bx r.2.length cb]] wy fun e w'=>(∃A' c',e=.returned (.slice A' (J7 r).length c')∧Kb w' A' (J7 r)∧(J7 r).length≤c')∧Below wy.heap.size wy w') (fun wy hy=>Tw r y3 Bx cb (y1.below hy) y4)
  have al:=@Qa (∀wy A' c',Below wr.heap.size wr wy→Kb wy A' (J7 r)→(J7 r).length≤c'→Calls prog 107 #[.pointer (some ⟨B,0,none⟩),.int .i64 aj,.int .u8 82,.int .i64 (IntKind.i64.wrap (IntKind.i64.wrap (IntKind.i64.wrap ((ep:Int)*1048576)+(j:Int))+1)),.slice A' (J7 r).length c'] wy fun e w'=>e=.returned (.tuple #[.int .i64 n,.int .i64 er])∧VK w' base B d'∧Qd base [121,165,167] wy w') (fun wy A' c' hy h1 h2=>by
   have:=ZE (HP.o.Ul.below hy) ((HS.o.keeps V hb2).below hy) hb2 aj 82 (ep*J6+j+1) (by omega) (by decide) (L8 _ _ (by omega) (by omega)) (J7 r) (by rw[an];omega) A' c' h1.D3 h2 (by omega);rw[az,hput]at this;exact this)
  have aa:Qh (wr.alloc (.cells #[.int .u8 r.1,.slice Bx r.2.length cb] 137)) wr.heap.size 137 #[.int .u8 r.1,.slice Bx r.2.length cb]:=Qh.new wr 137 _;have aL:Below wr.heap.size wr (wr.alloc (.cells #[.int .u8 r.1,.slice Bx r.2.length cb] 137)):=bR.alloc nR _;have ac:=Qa hput;clear hput an az y1;go_upto_region 7 with fail;generalize wr.alloc (.cells #[.int .u8 r.1,.slice Bx r.2.length cb] 137)=w7 at*
  obtain⟨X,hX⟩:=eX wr.heap.size;rw[←hX]at aa ⊢;have t:=Qa aL;have aV:=Qa aa;have Y:base≤wr.heap.size:=by omega
  have S1:=@Qa (∀wy,Qd base [121,165,167] w7 wy→wy.cell? ⟨Lb,0,none⟩=some (.pointer (some ⟨B,0,none⟩))∧wy.cell? ⟨X,0,none⟩=some (.int .u8 r.1)∧wy.cell? ⟨X,1,none⟩=some (.slice Bx r.2.length cb)) (fun wy hy=>by
   have hb:=(Q.o.blk.below t.o aS).keeps hy (by decide);have hx:=aV.o.keeps hy (by decide);exact⟨hb.cell 0,hx.cell 0,hx.cell 1⟩)
  have S0:=Qa (S1.o _ (Qd.Qe bR.drew (by have:=t.o.size;omega)));clear hX aL aa c1 c2
  go_region_held3 (fun wy=>wy.cell? ⟨Lb,0,none⟩=some (.pointer (some ⟨B,0,none⟩))∧wy.cell? ⟨X,0,none⟩=some (.int .u8 r.1)∧wy.cell? ⟨X,1,none⟩=some (.slice Bx r.2.length cb))
   (first|exact S1.o _ s.o|exact S1.o _ C.o|exact S0.o)
   (first
    |(go_at_call 166;refine(aU.o _ (t.o.trans (bR.drew.mono t.o.size))).mono ?_;rintro en w4 ⟨⟨A4,c4,rfl,aH,bi⟩,ai⟩;(have b9:Qb (Below wr.heap.size wr w4):=t.o.trans ((bR.drew.trans ai).mono t.o.size));(have C:Qb (Qd base [121,165,167] w7 w4):=Qd.Qe (bR.drew.trans ai) (Nat.le_trans Y t.o.size));(have aZ:=Qa aH);clear aH ai)
    |(go_at_call 107;refine(al.o w4 A4 c4 b9.o aZ.o bi).mono ?_;rintro en w5 ⟨rfl,z,v⟩;(have u:=Qa z);(have s:=Qa (C.o.trans v));clear z v))
  have aA:=Qa ((Qd.Qe (base:=base) (ts:=[121,165,167]) t.o Y).trans s.o);by_cases hez:er=0
  ·subst hez;have br:=LS ac.o;have bF:(n:Int)≤65536:=by omega
   go_wp2_with fail;go_roundw
   case rel=>exact⟨j+1,aj+n,d',by omega,by go_num,by rw[Int.natCast_add],HP.o.next aw am.o ac.o u.o aA.o⟩
   case measure=>simp[intOf];omega
  have W:((er:Int) != 0)=true:=by simp;omega
  have f:q=(er,d',l):=by
   rw[HQ.o,HP.o.fail am.o ac.o hez];cases er with
   |zero=>exact absurd rfl hez
   |succ e=>rfl
  subst f;go_wp2_with fail;go_ret;have kf:=HP.o.keep.trans aA.o;exact⟨rfl,⟨L,AL,cL,p.o.keeps kf (by decide) (by decide) (by decide)⟩,u.o,JR kf (by simp)⟩
 obtain rfl:j=K.length:=by omega
 have M:JB l.size ep (K.map (·.1)) 0 (bg+nd) d=(0,aj,dj):=by
  rw[HP.o.go,List.drop_of_length_le (by simp)];rfl
 obtain⟨T,hT⟩:=eX (bg+l.half-aj);have aM:q=VT l hf ep bg aj (K.map (·.1)) (Vx T aj dj):=by
  rw[HQ.o,M,hT];rfl
 have aO:=Qa aM;have HT:=Qa hT;have c2:wr.cell? ⟨Lb,2,none⟩=some (.int .i64 l.half):=Q.o.blk.cell 2;have bL:T≤262144:=by omega
 have bG:(0:Int)≤l.size:=by omega
 have bM:(l.size:Int)≤65536:=by have:=p.o.b3;omega
 have Y:base≤wr.heap.size:=by omega
 have a5:VK wr base B dj:=HP.o.Ul;have aN:=Qa a5;have bP:dj.waits.length+262144<2^40:=by omega
 have a7:dj.size=l.size:=by rw[R.1,aT.o]
 have aQ:=Qa a7;clear M aM hT a7 a5 R;obtain⟨w8,rfl⟩:=eX wr;go_wp2_with fail;go_loopw [13] (fun nv wz=>∃(k:Nat)(dk:Qq),k≤T∧nv=.int .i64 ((aj:Int)+(k:Int))∧TT w8 wz base B dj aj T k dk) (fun nv _=>(aj:Int).toNat+T-(intOf nv).toNat)
 case atStart=>exact⟨0,dj,Nat.zero_le _,by simp,aN.o,Qd.refl _ _ _,⟨rfl,rfl,by omega⟩,by simp⟩
 obtain⟨k,dk,hk,rfl,a2⟩:=hrel;have D:=Qa a2;have aD:=a2.keep;have E:=Q.o.keeps aD (by decide) (by decide) (by decide);have bh:=E.blk.lt;have U:=Qa E;have a8:=a2.same;have aJ:=Qa a8;have bc:dk.waits.length<2^40:=by omega
 have S:base≤wr.heap.size:=Nat.le_trans Y aD.below.size;have bz:wr.cell? ⟨Lb,2,none⟩=some (.int .i64 l.half):=E.blk.cell 2;clear a2 E a8 c2;by_cases hkT:k<T
 ·have af:=HT.o;have bE:(aj:Int)+(k:Int)<(bg:Int)+(l.half:Int):=by omega
  obtain⟨ez,d',hwd⟩:∃ez d',Jz dk (aj+k) (List.replicate dk.size 0)=(ez,d'):=⟨_,_,rfl⟩;have O:dk.size=l.size:=by rw[aJ.o.1,aQ.o]
  have aR:=Qa hwd
  have aY:=@Qa (Calls prog 163 #[.pointer (some ⟨B,0,none⟩),.int .i64 ((aj:Int)+(k:Int)),.slice (some ⟨wr.heap.size,0,none⟩) l.size l.size] (wr.alloc (.cells (JI l.size) 5)).drew (fun e w'=>e=.returned (.int .i64 ez)∧VK w' base B d'∧Qd base [121,165,167] (wr.alloc (.cells (JI l.size) 5)).drew w')) (by
   have b8:Qh (wr.alloc (.cells (JI l.size) 5)).drew wr.heap.size 5 ((List.replicate l.size (0:UInt8)).map Ks).toArray:=Qh.WD rfl;have:=OR (D.o.Ul.below (bR.alloc nR _).drew) (aj+k) (List.replicate l.size 0) (some ⟨wr.heap.size,0,none⟩) l.size (by have h:=(Kb.Ja b8).rd;exact h) (by simp;omega) bc;rw[List.length_replicate,←O,hwd,Int.natCast_add,O]at this;exact this)
  have S1:=@Qa (∀wy,Qd base [121,165,167] wr wy→wy.cell? ⟨Lb,0,none⟩=some (.pointer (some ⟨B,0,none⟩))∧wy.cell? ⟨Lb,3,none⟩=some (.int .i64 l.size)) (fun wy hy=>by
   have hb:=U.o.blk.keeps hy (by decide);exact⟨hb.cell 0,hb.cell 3⟩)
  have S0:=Qa (S1.o _ (Qd.Qe bR.drew S));have S3:=Qa (S1.o _ (Qd.Qe ((Below.refl wr.heap.size wr).alloc nR (.cells (JI l.size) 5)).drew S));have K3:Qb (Qd base [121,165,167] wr (wr.alloc (.cells (JI l.size) 5)).drew):=Qd.Qe (bR.alloc nR _).drew S;clear hwd O af;go_upto_region 15 with fail
  go_region_held3 (fun wy=>wy.cell? ⟨Lb,0,none⟩=some (.pointer (some ⟨B,0,none⟩))∧wy.cell? ⟨Lb,3,none⟩=some (.int .i64 l.size))
   (first|exact S1.o _ s.o|exact S0.o|exact S3.o)
   (first
    |(go_at_call 163;refine aY.o.mono ?_;rintro en w5 ⟨rfl,z,v⟩;(have u:=Qa z);(have s:=Qa (K3.o.trans v));clear z v))
  by_cases hez:ez=0
  ·subst hez;go_wp2_with fail;go_roundw
   case rel=>exact⟨k+1,d',by omega,by go_num,D.o.next hkT aR.o u.o s.o⟩
   case measure=>simp[intOf];omega
  have W:((ez:Int) != 0)=true:=by simp;omega
  have f:q=(ez,d',l):=by
   rw[aO.o,D.o.fail hkT aR.o hez];cases ez with
   |zero=>exact absurd rfl hez
   |succ e=>rfl
  subst f;go_wp2_with fail;go_ret;have kf:=(HP.o.keep.trans D.o.keep).trans s.o;exact⟨rfl,⟨L,AL,cL,p.o.keeps kf (by decide) (by decide) (by decide)⟩,u.o,JR kf (by simp)⟩
 obtain rfl:k=T:=by omega
 have aB:Vx k aj dj=(0,dk):=by rw[D.o.go,Nat.sub_self];rfl
 have af:=HT.o;have bm:¬((aj:Int)+(k:Int)<(bg:Int)+(l.half:Int)):=by omega
 have c0:wr.cell? ⟨Lb,0,none⟩=some (.pointer (some ⟨B,0,none⟩)):=U.o.blk.cell 0;have Z:=@Qa (q=VT l hf ep bg aj (K.map (·.1)) (0,dk)) (by rw[aO.o,aB]);obtain⟨e2,d3,hf1⟩:∃e2 d3,Q4 dk=(e2,d3):=⟨_,_,rfl⟩;have ag:=YJ D.o.Ul;rw[hf1]at ag;have bj:=Qa ag;have N:=Qa hf1;have I:=Qa (HP.o.keep.trans D.o.keep);have b6:(bg:Int)≤131072:=by omega
 clear aB af ag hf1;go_upto_region 19 with(go_at_call 130;refine bj.o.mono ?_;rintro en w3 ⟨rfl,aI,ax⟩;(have ap:=Qa aI);(have H:=Qa ax);clear aI ax);by_cases he2:e2=0
 ·subst he2;have F:=U.o.keeps H.o (by decide) (by decide) (by decide);have aW:w3.cell? ⟨Lb,0,none⟩=some (.pointer (some ⟨B,0,none⟩)):=F.blk.cell 0;have bN:=F.blk.lt;have aK:=Qa F;have bv:=ZO N.o;obtain⟨n4,e4,d4,hp4⟩:∃n4 e4 d4,KN d3 bg 72 ep []=(n4,e4,d4):=⟨_,_,_,rfl⟩;have ae:=ZE ap.o (HS.o.keeps (I.o.trans H.o) hb2) hb2 bg 72 ep (by omega) (by decide) (by omega) [] (by decide) none 0 Kb.nil.D3 (by decide) (by omega);rw[hp4]at ae;have ar:=@Qa (Calls prog 107 #[.pointer (some ⟨B,0,none⟩),.int .i64 bg,.int .u8 72,.int .i64 ep,.slice none 0 0] w3 (fun e w'=>e=.returned (.tuple #[.int .i64 n4,.int .i64 e4])∧VK w' base B d4∧Qd base [121,165,167] w3 w')) (ae);have ah:=Qa hp4;clear F ae hp4 c0;go_upto_region 22 with(go_at_call 107;refine ar.o.mono ?_;rintro en w4 ⟨rfl,aF,aE⟩;(have au:=Qa aF);(have C:=Qa aE);clear aF aE);by_cases he4:e4=0
  ·subst he4;have G:=aK.o.keeps C.o (by decide) (by decide) (by decide);have aX:w4.cell? ⟨Lb,0,none⟩=some (.pointer (some ⟨B,0,none⟩)):=G.blk.cell 0;have bs:=G.blk.lt;have aG:=Qa G;obtain⟨e5,d5,hf5⟩:∃e5 d5,Q4 d4=(e5,d5):=⟨_,_,rfl⟩;have P:=YJ au.o;rw[hf5]at P;have ay:=Qa P;have aP:=Qa hf5;clear G P hf5 aW;go_upto_region 25 with(go_at_call 130;refine ay.o.mono ?_;rintro en w5 ⟨rfl,z,v⟩;(have u:=Qa z);(have s:=Qa v);clear z v);by_cases he5:e5=0
   ·subst he5;have f:q=(0,d5,{ l with use:=hf,epoch:=ep,at':=aj,Qo:=K.map (·.1) }):=by rw[Z.o,CT N.o ah.o aP.o]
    subst f;have a6:=aG.o.keeps s.o (by decide) (by decide) (by decide);have g:=a6.blk;have bI:=g.lt;have bK:w5.cell? ⟨Lb,4,none⟩=some (.int .i64 l.use):=g.cell 4;have bB:w5.cell? ⟨Lb,5,none⟩=some (.int .i64 l.epoch):=g.cell 5;have bt:w5.cell? ⟨Lb,6,none⟩=some (.int .i64 l.at'):=g.cell 6;have bA:w5.cell? ⟨Lb,7,none⟩=some (.slice AL l.Qo.length cL):=g.cell 7;have bD:=g.free 4;have bu:=g.free 5;have bJ:=g.free 6;have bw:=g.free 7;have aq:=Qa g;clear a6 g aX;go_wp2_with fail;go_ret;have kf:=((I.o.trans H.o).trans C.o).trans s.o;have s1:=aq.o.set 4 (.int .i64 hf);have s2:=s1.set 5 (.int .i64 ep);have s3:=s2.set 6 (.int .i64 aj);have s4:=s3.set 7 (.slice A K.length c);have kx:=((((Qd.refl base [216] w5).set (o:=4) aq.o y (by simp) (.int .i64 hf)).set (o:=5) s1 y (by simp) (.int .i64 ep)).set (o:=6) s2 y (by simp) (.int .i64 aj)).set (o:=7) s3 y (by simp) (.slice A K.length c);refine⟨rfl,⟨K,A,c,y, ?_, ?_,rfl, ?_,b1,b2,p.o.b3, ?_, ?_,by simp only;omega,by simp only[List.length_map];exact hKn⟩,u.o.keeps kx (by decide) (by decide) (by decide) (by decide) (by decide),(JR kf (by simp)).trans (JR kx (by simp))⟩
    ·simp only[List.length_map];exact s4
    ·simp only[List.length_map];exact QF (QF HK.o kf (by decide)) kx (by decide)
    ·exact(ao.o.keeps kf (by decide)).keeps kx (by decide)
    ·have:=bd.o;simp only;omega
    have:=ba.o;simp only;omega
   have W:((e5:Int) != 0)=true:=by simp;omega
   have f:q=(e5,d5,l):=by rw[Z.o,CX N.o ah.o aP.o he5]
   subst f;go_wp2_with fail;go_ret;have kf:=((I.o.trans H.o).trans C.o).trans s.o;exact⟨rfl,⟨L,AL,cL,p.o.keeps kf (by decide) (by decide) (by decide)⟩,u.o,JR kf (by simp)⟩
  have W:((e4:Int) != 0)=true:=by simp;omega
  have f:q=(e4,d4,l):=by rw[Z.o,CO N.o ah.o he4]
  subst f;go_wp2_with fail;go_ret;have kf:=(I.o.trans H.o).trans C.o;exact⟨rfl,⟨L,AL,cL,p.o.keeps kf (by decide) (by decide) (by decide)⟩,au.o,JR kf (by simp)⟩
 have W:((e2:Int) != 0)=true:=by simp;omega
 have f:q=(e2,d3,l):=by rw[Z.o,CZ N.o he2]
 subst f;go_wp2_with fail;go_ret;have kf:=I.o.trans H.o;exact⟨rfl,⟨L,AL,cL,p.o.keeps kf (by decide) (by decide) (by decide)⟩,ap.o,JR kf (by simp)⟩
end
end Go.Proofs.YtmgmfnimaafkdaaGreatDoor
namespace Go.Proofs.YtmgmfnimaafkdaaGreatDoor
open Tryz
open Go.RowKit Go.Maps
theorem OW{d:Qq}{at':Nat}:∀(k i:Nat)(head:P7)(out:List UInt8)(r:Yn),Va d at' k i head out=(0,r)→i+1≤r.many∧r.many≤i+k
 |0,i,head,out,r,hg=>by unfold Va at hg;simp at hg
 |k+1,i,head,out,r,hg=>by
  unfold Va at hg;cases hr:Vh d (at'+i)with
  |mk e s=>
   rw[hr]at hg;cases e with
   |succ e=>simp at hg
   |zero=>
    simp only at hg;split at hg
    ·simp at hg
    cases hx:J4 s with
    |none=>rw[hx]at hg;simp at hg
    |some x=>
     rw[hx]at hg;simp only at hg;split at hg
     ·simp at hg
     split at hg
     ·simp at hg
     by_cases hi:i=0
     ·simp only[if_pos hi]at hg;split at hg
      ·injection hg with _ hg;subst hg;simp only;omega
      have:=OW k _ _ _ _ hg;omega
     simp only[if_neg hi]at hg;split at hg
     ·injection hg with _ hg;subst hg;simp only;omega
     have:=OW k _ _ _ _ hg;omega
variable {at':Nat} {d:Qq}
theorem Fb{r:Yn}(hg:KE d at'=(0,r)):1≤r.many∧at'+r.many≤d.Qk.length:=by
 unfold KE at hg;split at hg
 ·simp at hg
 have:=OW _ _ _ _ _ hg;omega
def VS(l:QD)(rs:List QN):QD:={ l with Qo:=rs }
variable {d':Qq} {e:Nat} {l l':QD} {rs:List QN}
theorem DA{r:QN}(hl:rs.length=l.Qo.length)(h:VN d l r=(e,d',l')):∃rs',rs'.length=l'.Qo.length∧VN d (VS l rs) r=(e,d',VS l' rs'):=by
 unfold VN at h ⊢;by_cases h1:4000<r.2.length
 ·rw[if_pos h1]at h ⊢;injection h with h2 h;injection h with h3 h4;subst h2;subst h3;subst h4;exact⟨rs,hl,rfl⟩
 rw[if_neg h1]at h ⊢;have e1:(VS l rs).left=l.left:=rfl;have e2:(VS l rs).Jb r=l.Jb r:=rfl;have e3:(VS l rs).Qo.length=l.Qo.length:=hl;rw[e1,e2,e3];by_cases h2:l.left<l.Jb r∨l.Qo.length=1000000
 ·rw[if_pos h2]at h ⊢;injection h with h2 h;injection h with h3 h4;subst h2;subst h3;subst h4;exact⟨rs,hl,rfl⟩
 rw[if_neg h2]at h ⊢
 show ∃rs',_∧(match KN d l.at' 82 (l.epoch*J6+l.Qo.length+1) (J7 r)with
  |(n,0,d')=>(0,d',{ VS l rs with at':=l.at'+n,Qo:=rs++[r] })
  |(_,e,d')=>(e,d',VS l rs))=_
 cases hp:KN d l.at' 82 (l.epoch*J6+l.Qo.length+1) (J7 r)with
 |mk n q=>
  obtain⟨e0,d0⟩:=q;rw[hp]at h;cases e0 with
  |zero=>
   injection h with h2 h;injection h with h3 h4;subst h2;subst h3;subst h4;exact⟨rs++[r],by simp[hl],rfl⟩
  |succ e0=>
   injection h with h2 h;injection h with h3 h4;subst h2;subst h3;subst h4;exact⟨rs,hl,rfl⟩
variable {keep:List QN}
theorem GH(hl:rs.length=l.Qo.length)(h:Ku d l keep=(e,d',l')):∃rs',rs'.length=l'.Qo.length∧Ku d (VS l rs) keep=(e,d',VS l' rs'):=by
 unfold Ku at h ⊢;simp only at h ⊢;have e1:∀k,(VS l rs).begin k=l.begin k:=fun _=>rfl
 simp only[e1,show(VS l rs).size=l.size from rfl,show(VS l rs).use=l.use from rfl,show(VS l rs).epoch=l.epoch from rfl,show(VS l rs).half=l.half from rfl];cases h1:JB l.size (l.epoch+1) keep 0 (l.begin (1-l.use)+Qf l.size 0) d with
 |mk a q=>
  obtain⟨b,d1⟩:=q;rw[h1]at h;cases a with
  |succ a=>
   injection h with h2 h;injection h with h3 h4;subst h2;subst h3;subst h4;exact⟨rs,hl,rfl⟩
  |zero=>
   simp only at h ⊢;cases h2:Vx (l.begin (1-l.use)+l.half-b) b d1 with
   |mk a2 d2=>
    rw[h2]at h;cases a2 with
    |succ a=>
     injection h with h2 h;injection h with h3 h4;subst h2;subst h3;subst h4;exact⟨rs,hl,rfl⟩
    |zero=>
     simp only at h ⊢;cases h3:Q4 d2 with
     |mk a3 d3=>
      rw[h3]at h;cases a3 with
      |succ a=>
       injection h with h2 h;injection h with h3 h4;subst h2;subst h3;subst h4;exact⟨rs,hl,rfl⟩
      |zero=>
       simp only at h ⊢;cases h4:KN d3 (l.begin (1-l.use)) 72 (l.epoch+1) []with
       |mk n q=>
        obtain⟨a4,d4⟩:=q;rw[h4]at h;cases a4 with
        |succ a=>
         injection h with h2 h;injection h with h3 h4;subst h2;subst h3;subst h4;exact⟨rs,hl,rfl⟩
        |zero=>
         simp only at h ⊢;cases h5:Q4 d4 with
         |mk a5 d5=>
          rw[h5]at h;cases a5 with
          |succ a=>
           injection h with h2 h;injection h with h3 h4;subst h2;subst h3;subst h4;exact⟨rs,hl,rfl⟩
          |zero=>
           injection h with h2 h;injection h with h3 h4;subst h2;subst h3;subst h4;exact⟨keep,rfl,rfl⟩
theorem El(hl:rs.length=l.Qo.length)(h:Ju d l keep=(e,d',l')):∃rs',rs'.length=l'.Qo.length∧Ju d (VS l rs) keep=(e,d',VS l' rs'):=by
 unfold Ju at h ⊢;have e1:∀r,(VS l rs).Jb r=l.Jb r:=fun _=>rfl
 have e2:(VS l rs).Jb=l.Jb:=funext e1;rw[show(VS l rs).half=l.half from rfl,show(VS l rs).size=l.size from rfl,e2];split at h
 ·rename_i h1;rw[if_pos h1];injection h with h2 h;injection h with h3 h4;subst h2;subst h3;subst h4;exact⟨rs,hl,rfl⟩
 rename_i h1;rw[if_neg h1];split at h
 ·rename_i h2;rw[if_pos h2];injection h with h2 h;injection h with h3 h4;subst h2;subst h3;subst h4;exact⟨rs,hl,rfl⟩
 rename_i h2;rw[if_neg h2];exact GH hl h
def Wm(w:World)(base Lb B:Nat)(l:QD):Prop:=∃rs,rs.length=l.Qo.length∧Yw w base Lb B (VS l rs)
variable {B Lb base:Nat}
theorem Yw.w{w:World}(h:Yw w base Lb B l):Wm w base Lb B l:=⟨l.Qo,rfl,h⟩
variable {base':Nat} {w':World}
theorem Wm.keeps{ts:List TypeId}{w:World}(h:Wm w base Lb B l)(k:Qd base' ts w w')(h1:216∉ts)(h2:137∉ts)(h3:5∉ts):Wm w' base Lb B l:=by
 obtain⟨rs,hl,h⟩:=h;exact⟨rs,hl,h.keeps k h1 h2 h3⟩
def Gl(w w':World)(base Lb B:Nat)(r:Nat × Qq × QD)(e:Ending):Prop:=e=.returned (.int .i64 r.1)∧Wm w' base Lb B r.2.2∧VK w' base B r.2.1∧Qd base [121,165,167,216,137] w w'
theorem EU{w:World}(hL:Wm w base Lb B l)(hD:VK w base B d)(hs:J9 w)(hb2:2<base)(hat:l.at'≤l.begin l.use+l.half)(hw:d.waits.length+65536<2^40)(hsz:l.size=d.size)
  (r:QN)(hk:r.1<256)(A:Option Addr)(c:Nat)(hb:Kb w A r.2)(hn:r.2.length<1099511627776)(hc:r.2.length≤c):
  Calls prog 129 #[.pointer (some ⟨Lb,0,none⟩),.agg #[.int .u8 r.1,.slice A r.2.length c]] w fun e w'=>Gl w w' base Lb B (VN d l r) e:=by
 obtain⟨rs,hl,hL⟩:=hL;refine(Dl hL hD hs hb2 hat hw hsz r hk A c hb hn hc).mono ?_;rintro e w' ⟨h1,h2,h3,h4⟩;obtain⟨a,g1,g2⟩:=DA (d:=d) (r:=r) hl (show VN d l r=((VN d l r).1,(VN d l r).2.1,(VN d l r).2.2)from rfl);rw[g2]at h1 h2 h3;exact⟨h1,⟨a,g1,h2⟩,h3,h4⟩
theorem IA{w:World}(h:Wm w base Lb B l)(hd:VK w base B d):
  Calls prog 73 #[.pointer (some ⟨Lb,0,none⟩)] w fun e w'=>UW w w' base B (Q4 d) e:=by
 obtain⟨rs,hl,h⟩:=h;exact Ew h hd
theorem WK{w:World}(h:Wm w base Lb B l):
  Calls prog 159 #[.pointer (some ⟨Lb,0,none⟩)] w fun e w'=>e=.returned (.int .i64 (l.epoch:Nat))∧w=w':=by
 obtain⟨rs,hl,h⟩:=h;have:=Gx h;exact this
end Go.Proofs.YtmgmfnimaafkdaaGreatDoor
namespace Go.Proofs.YtmgmfnimaafkdaaGreatDoor
open Tryz
open Go.RowKit Go.Maps
def Qw(l:List UInt8):Value:=.string ⟨l.toArray⟩
variable {b:List UInt8}
theorem EI{a:List UInt8}(h:Qw a=Qw b):a=b:=by
 unfold Qw at h;injection h with h;injection h with h;have:=congrArg Array.toList h;simpa using this
def QZ(n:Qj):Value:=.agg #[.int .i64 n.1,.int .i64 n.2]
theorem V6{a b:Qj}(h:QZ a=QZ b):a=b:=by
 unfold QZ at h;injection h with h;have:=congrArg Array.toList h;simp at this;exact Prod.ext this.1 this.2
def Ro(n:Qj):Lit:=.string (keyBytes [.int .i64 n.1,.int .i64 n.2])
def ZX(x:Int):Prop:=(Lit.int .i64 x).wf=true
def TQ(n:Qj):Prop:=ZX n.1∧ZX n.2
def Kv(x:Qx):Value:=.agg #[.int .i64 x.at',.int .i64 x.len,.int .i64 x.bytes,.int .i64 x.mark]
def L6(x:Qx):DataW Unit:=.agg [.lit (.int .i64 x.at'),.lit (.int .i64 x.len),.lit (.int .i64 x.bytes),.lit (.int .i64 x.mark)]
theorem Yh{a b:Qx}(h:Kv a=Kv b):a=b:=by
 unfold Kv at h;injection h with h;have:=congrArg Array.toList h;simp at this;obtain⟨h1,h2,h3,h4⟩:=this;cases a;cases b;simp only at h1 h2 h3 h4;subst h1;subst h4;have h2:_=_:=Int.ofNat.inj h2;have h3:_=_:=Int.ofNat.inj h3;subst h2;subst h3;rfl
theorem Zi{a b:Qx}(h:L6 a=L6 b):a=b:=by
 unfold L6 at h;injection h with h;simp at h;obtain⟨h1,h2,h3,h4⟩:=h;cases a;cases b;simp only at h1 h2 h3 h4;subst h1;subst h4;have h2:_=_:=Int.ofNat.inj h2;have h3:_=_:=Int.ofNat.inj h3;subst h2;subst h3;rfl
theorem F6:laidOutB prog=true:=by kernel_rfl
theorem CV:(73:TypeId)<prog.types.size:=of_decide_eq_true (by kernel_rfl)
theorem Wy:prog.cellsOf 73=2:=by kernel_rfl
theorem OZ:prog.cellsOf 2=1:=by kernel_rfl
theorem Cn:prog.keyType 73=true:=by kernel_rfl
theorem Cm:(match prog.underlying 73 with|some (.array _ _)|some (.struct _)=>true|_=>false)=true:=by kernel_rfl
theorem F4:∃m,prog.types.size=m+1:=⟨prog.types.size-1,by kernel_rfl⟩
theorem Vs:Keyed prog 73:=Keyed.of_law (deep_law_laid F6 (m:=3) (by omega) CV (by kernel_rfl) Cm)
theorem Lo:Keyed prog 2:=int_keyed underlying2
theorem I8{d:Nat}{cs:List Value}{l:List Lit}(h:prog.keyLits (d+1) 2 cs=some l):∃n,cs=[.int .i64 n]∧l=[.int .i64 n]∧(Lit.int .i64 n).wf=true:=by
 unfold Program.keyLits at h;rw[underlying2]at h
 match cs with
 |[]=>simp at h
 |c::d::r=>cases c<;>simp at h
 |[c]=>
  cases c<;>simp at h;obtain⟨⟨rfl,hw⟩,rfl⟩:=h;exact⟨_,rfl,rfl,hw⟩
theorem Uj{n:Qj}(h:TQ n):keyOf prog 73 (QZ n)=some (Ro n):=by
 obtain⟨h1,h2⟩:=h;unfold ZX at h1 h2;obtain⟨m,hm⟩:=F4;unfold keyOf QZ Ro;rw[underlying73];simp only;rw[if_pos (by simp[Cn,Value.formed,underlying73,Wy]),hm];unfold Program.keyLits;rw[underlying73];simp only[Value.cells];simp[Wy,OZ,Program.keyLits,underlying2,h1,h2]
variable {v:Value}
theorem Je{l:Lit}(h:keyOf prog 73 v=some l):∃x:Qj,TQ x∧v=QZ x∧l=Ro x:=by
 obtain⟨m,hm⟩:=F4;unfold keyOf at h;rw[underlying73]at h;simp only at h;split at h
 ·rename_i hc;simp only[Bool.and_eq_true]at hc;have hf:=hc.2;obtain⟨cs,rfl,hsz⟩:∃cs:Array Value,v=.agg cs∧cs.size=2:=by
   cases v<;>simp[Value.formed,underlying73,Wy]at hf;exact⟨_,rfl,hf⟩
  obtain⟨l'⟩:=cs
  match l',hsz with
  |[c0,c1],_=>
   simp only[Value.cells]at h;rw[hm]at h;unfold Program.keyLits at h;rw[underlying73]at h;simp[Wy,OZ]at h;cases h0:prog.keyLits (m+1) 2 [c0]with
   |none=>rw[h0]at h;simp at h
   |some l0=>
   cases h1:prog.keyLits (m+1) 2 [c1]with
   |none=>rw[h0,h1]at h;simp at h
   |some l1=>
   rw[h0,h1]at h;simp at h;subst h;obtain⟨n0,e0,rfl,w0⟩:=I8 h0;obtain⟨n1,e1,rfl,w1⟩:=I8 h1;injection e0 with e0;injection e1 with e1;subst e0;subst e1;exact⟨(n0,n1),⟨w0,w1⟩,rfl,rfl⟩
 cases h
def NK:KV prog Int (List UInt8) where
 k:=2
 t:=124
 e:=9
 ek:=Value.int .i64
 lk:=Lit.int .i64
 ok:=ZX
 ea:=Qw
 da:=fun l=>.lit (.string l)
 z:=[]
 keyed:=Lo
 ut:=underlying124
 key:=fun x h=>keyOf_int_mk underlying2 h
 inv:=fun v l h=>by
  obtain⟨x,h1,h2,h3⟩:=Maps.keyOf_int_inv underlying2 h
  exact⟨x,h3,h1,h2⟩
 inj:=fun x y _ _ h=>by injection h
 C7:=fun x y h=>by injection h
 EA:=fun _ _ h=>EI h
 Dy:=fun a b h=>by injection h with h;injection h
 zero:=fun w=>zeroValue9 w
def SK:KV prog Qj Qx where
 k:=73
 t:=125
 e:=142
 ek:=QZ
 lk:=Ro
 ok:=TQ
 ea:=Kv
 da:=L6
 z:=⟨0,0,0,0⟩
 keyed:=Vs
 ut:=underlying125
 key:=fun x h=>Uj h
 inv:=fun v l h=>Je h
 inj:=fun x y hx hy h=>V6 (Vs.inj (Uj hx) (by rw[h];exact Uj hy))
 C7:=fun x y h=>V6 h
 EA:=fun _ _ h=>Yh h
 Dy:=fun _ _ h=>Zi h
 zero:=fun w=>zeroValue142 w
theorem SA{x:Int}(h: -9223372036854775808≤x∧x≤9223372036854775807):ZX x:=by
 unfold ZX;have h1:IntKind.i64.min= -9223372036854775808:=rfl;have h2:IntKind.i64.max=9223372036854775807:=rfl;simp[Lit.wf,h1,h2];omega
theorem Q8{x:Int}(h:Qs x=true):ZX x:=by
 unfold Qs at h;simp only[Bool.and_eq_true,decide_eq_true_eq]at h;exact SA (by omega)
theorem OQ{l:List (Int × List UInt8)}(hs:Yx l)(hr:∀x∈l,Qs x.1=true∧x.2.length≤3000):NK.Keys (QC l) (l.map (·.1)):=
 ⟨hs.nodup,fun x hx=>by obtain⟨y,hy,rfl⟩:=List.mem_map.1 hx;exact Q8 (hr y hy).1,fun x _=>KD.symm⟩
theorem JO{l:List (Qj × Qx)}(hs:Xa l)(hr:∀x∈l,Kf x∧x.2.len≤1048576):SK.Keys (QC l) (l.map (·.1)):=
 ⟨hs.nodup,fun x hx=>by obtain⟨y,hy,rfl⟩:=List.mem_map.1 hx;exact⟨Q8 (hr y hy).1.1,Q8 (hr y hy).1.2.1⟩,fun x _=>KD.symm⟩
def Tb(w:World):Prop:=Lib.TabIs prog w "internal/strconv.uint64pow10" .u64 Lib.pow10Tab
variable {w':World}
theorem Tb.below{w:World}(h:Tb w)(hb:Below w.heap.size w w'):Tb w':=Lib.tabBelow_of_tabIs h w' hb
def XX(base:Nat)(w:World):Prop:=∀w',Below base w w'→J9 w'∧Tb w'
variable {base:Nat}
theorem XX.below{w:World}(h:XX base w)(hb:Below base w w'):XX base w':=fun w2 h2=>h w2 (hb.trans h2)
theorem XX.steps{w:World}(h:XX base w):J9 w:=(h w bR).1
theorem XX.tb{w:World}(h:XX base w):Tb w:=(h w bR).2
structure KY where
 Lb:Nat
 B:Nat
 M:Nat
 Nb:Nat
 Pb:Nat
 A:Option Addr
 c:Nat
abbrev Ef(s:QM)(m:KY):Array Value:=#[.pointer (some ⟨m.B,0,none⟩),.int .i64 s.d.size,.pointer (some ⟨m.Lb,0,none⟩),.pointer (some ⟨m.M,0,none⟩),.map (some m.Nb),.map (some m.Pb),.slice m.A s.marks.length m.c,.int .i64 s.epoch,.int .i64 s.QA]
structure QO (w:World) (base Sb:Nat) (s:QM) (m:KY):Prop where
 low:base≤Sb
 blk:Qh w Sb 129 (Ef s m)
 Ul:VK w base m.B s.d
 log:Wm w base m.Lb m.B s.log
 map:KL w base m.M s.map
 OG:NK.In w m.Nb s.notes.length (QC s.notes)
 Wn:base≤m.Nb
 pmap:SK.In w m.Pb s.Qc.length (QC s.Qc)
 Iw:base≤m.Pb
 ne:m.Nb≠m.Pb
 Xk:w.ownsRow base 9 1 (.slice m.A s.marks.length m.c) s.marks.length (s.marks.map Qw)
 Rn:XX base w
 b2:2<base
variable {Sb:Nat} {m:KY} {s:QM}
theorem QO.lt{w:World}(h:QO w base Sb s m):base≤w.heap.size:=by
 have:=h.blk.lt;have:=h.low;omega
structure Qt (base:Nat) (m m':KY) (w w':World):Prop where
 below:Below base w w'
 old:∀k t,VG w k=some t→t∉([121,165,167,216,137,220,129]:List TypeId)→k≠m.Nb→k≠m.Pb→(∀a,m.A=some a→k≠a.block)→w'.heap[k]? =w.heap[k]?
 lb:m'.Lb=m.Lb
 B:m'.B=m.B
 M:m'.M=m.M
 nb:m'.Nb=m.Nb
 pb:m'.Pb=m.Pb
 Xk:∀a,m'.A=some a→(∃b,m.A=some b∧a.block=b.block)∨w.heap.size≤a.block
variable {k:Nat}
theorem LG{w:World}(h:w'.heap[k]? =w.heap[k]?):VG w' k=VG w k:=by unfold VG;rw[h]
theorem Qt.trans{m1 m2 m3:KY}{a b c:World}(h:Qt base m1 m2 a b)(k:Qt base m2 m3 b c):Qt base m1 m3 a c:=by
 refine⟨h.below.trans k.below,fun j t ht hn h1 h2 h3=> ?_,k.lb.trans h.lb,k.B.trans h.B,k.M.trans h.M,k.nb.trans h.nb,k.pb.trans h.pb,fun x hx=> ?_⟩
 ·have e:=h.old j t ht hn h1 h2 h3;refine(k.old j t (by rw[LG e];exact ht) hn (by rw[h.nb];exact h1) (by rw[h.pb];exact h2) (fun x hx=> ?_)).trans e;rcases h.Xk x hx with⟨y,hy,e2⟩|e2
  ·rw[e2];exact h3 y hy
  have:=YB ht;omega
 rcases k.Xk x hx with⟨y,hy,e2⟩|e2
 ·rcases h.Xk y hy with⟨z,hz,e3⟩|e3
  ·exact .inl ⟨z,hz,e2.trans e3⟩
  exact .inr (by rw[e2];exact e3)
 exact .inr (Nat.le_trans h.below.size e2)
theorem Qt.of{ts:List TypeId}{w:World}(h:Qd base ts w w')(ht:∀t∈ts,t∈([121,165,167,216,137,220,129]:List TypeId)):Qt base m m w w':=
 ⟨h.below,fun k t hk hn _ _ _=>h.old k t hk (fun hm=>hn (ht t hm)),rfl,rfl,rfl,rfl,rfl,fun a h=>.inl ⟨a,h,rfl⟩⟩
variable {base':Nat}
theorem QO.keeps{w:World}{ts:List TypeId}(h:QO w base Sb s m)(k:Qd base' ts w w')(hb:base≤base')(ht:∀t∈([121,165,167,216,137,220,129,140,169,5,9,1000000]:List TypeId),t∉ts):QO w' base Sb s m:=
 ⟨h.low,h.blk.keeps k (ht _ (by decide)),h.Ul.keeps k (ht _ (by decide)) (ht _ (by decide)) (ht _ (by decide)) (ht _ (by decide)) (ht _ (by decide)),h.log.keeps k (ht _ (by decide)) (ht _ (by decide)) (ht _ (by decide)),h.map.keeps k (ht _ (by decide)) (ht _ (by decide)),
  h.OG.keeps k (ht _ (by decide)),h.Wn,h.pmap.keeps k (ht _ (by decide)),h.Iw,h.ne,QF h.Xk k (ht _ (by decide)),h.Rn.below (k.below.mono hb),h.b2⟩
theorem QO.below{w:World}(h:QO w base Sb s m)(k:Below w.heap.size w w'):QO w' base Sb s m:=
 h.keeps (ts:=[]) (Qd.Qe (base:=base) k h.lt) nR (by simp)
variable {d':Qq} {l':QD}
theorem QO.YG{w:World}(h:QO w base Sb s m)(k:Qd base [121,165,167,216,137] w w')(hd:VK w' base m.B d')(hl:Wm w' base m.Lb m.B l')(hz:d'.size=s.d.size):
  QO w' base Sb { s with d:=d',log:=l' } m:=
 ⟨h.low,by have:=h.blk.keeps k (by decide);unfold Ef at *; simp only[hz];exact this,hd,hl,h.map.keeps k (by decide) (by decide),h.OG.keeps k (by decide),h.Wn,h.pmap.keeps k (by decide),h.Iw,h.ne,QF h.Xk k (by decide),h.Rn.below k.below,h.b2⟩
variable {m':Jt}
theorem QO.mapped{w:World}(h:QO w base Sb s m)(k:Qd base [220] w w')(hm:KL w' base m.M m'):QO w' base Sb { s with map:=m' } m:=
 ⟨h.low,h.blk.keeps k (by decide),h.Ul.keeps k (by decide) (by decide) (by decide) (by decide) (by decide),h.log.keeps k (by decide) (by decide) (by decide),hm,h.OG.keeps k (by decide),h.Wn,h.pmap.keeps k (by decide),h.Iw,h.ne,QF h.Xk k (by decide),h.Rn.below k.below,h.b2⟩
theorem U1{w:World}{b:Nat}(ht:w.mapTurned w' b)(hb:base≤b)(hw:base≤w.heap.size)(hbm:b=m.Nb∨b=m.Pb):Qt base m m w w':=by
 refine⟨(KV.YT ht hb hw).below,fun k t hk _ h1 h2 _=>ht.grown.block k (YB hk) (fun e=> ?_),rfl,rfl,rfl,rfl,rfl,fun a h=>.inl ⟨a,h,rfl⟩⟩;injection e with e;rcases hbm with h|h
 ·exact h1 (e.trans h)
 exact h2 (e.trans h)
variable {n:Nat}
theorem QO.LZ{w:World}(h:QO w base Sb s m)(ht:w.mapTurned w' m.Nb){l':List (Int × List UInt8)}(hin:NK.In w' m.Nb n (QC l'))(hs:Yx l')(hr:∀x∈l',Qs x.1=true∧x.2.length≤3000):
  QO w' base Sb { s with notes:=l' } m∧Qt base m m w w':=by
 have k:=KV.YT ht h.Wn h.lt;have a:=hin.tight (OQ hs hr);rw[List.length_map]at a;exact⟨⟨h.low,h.blk.keeps k (by decide),h.Ul.keeps k (by decide) (by decide) (by decide) (by decide) (by decide),h.log.keeps k (by decide) (by decide) (by decide),h.map.keeps k (by decide) (by decide),a,h.Wn,h.pmap.kept ht.grown (by intro e;injection e with e;exact h.ne e.symm),h.Iw,h.ne,QF h.Xk k (by decide),h.Rn.below k.below,h.b2⟩,U1 ht h.Wn h.lt (.inl rfl)⟩
theorem QO.sliced{w:World}(h:QO w base Sb s m)(ht:w.mapTurned w' m.Pb){l':List (Qj × Qx)}(hin:SK.In w' m.Pb n (QC l'))(hs:Xa l')(hr:∀x∈l',Kf x∧x.2.len≤1048576):
  QO w' base Sb { s with Qc:=l' } m∧Qt base m m w w':=by
 have k:=KV.YT ht h.Iw h.lt;have a:=hin.tight (JO hs hr);rw[List.length_map]at a;exact⟨⟨h.low,h.blk.keeps k (by decide),h.Ul.keeps k (by decide) (by decide) (by decide) (by decide) (by decide),h.log.keeps k (by decide) (by decide) (by decide),h.map.keeps k (by decide) (by decide),h.OG.kept ht.grown (by intro e;injection e with e;exact h.ne e),h.Wn,a,h.Iw,h.ne,QF h.Xk k (by decide),h.Rn.below k.below,h.b2⟩,U1 ht h.Iw h.lt (.inr rfl)⟩
theorem QO.DJ{w:World}(h:QO w base Sb s m)(e p:Nat):
  QO ((w.setCell ⟨Sb,7,none⟩ (.int .i64 e)).setCell ⟨Sb,8,none⟩ (.int .i64 p)) base Sb { s with epoch:=e,QA:=p } m∧Qd base [129] w ((w.setCell ⟨Sb,7,none⟩ (.int .i64 e)).setCell ⟨Sb,8,none⟩ (.int .i64 p)):=by
 have s1:=h.blk.set 7 (.int .i64 e);have s2:=s1.set 8 (.int .i64 p);have k:=((Qd.refl base [129] w).set (o:=7) h.blk h.low (by simp) (.int .i64 e)).set (o:=8) s1 h.low (by simp) (.int .i64 p);exact⟨⟨h.low,s2,h.Ul.keeps k (by decide) (by decide) (by decide) (by decide) (by decide),h.log.keeps k (by decide) (by decide) (by decide),h.map.keeps k (by decide) (by decide),h.OG.keeps k (by decide),h.Wn,h.pmap.keeps k (by decide),h.Iw,h.ne,QF h.Xk k (by decide),h.Rn.below k.below,h.b2⟩,k⟩
end Go.Proofs.YtmgmfnimaafkdaaGreatDoor
namespace Go.Proofs.YtmgmfnimaafkdaaGreatDoor
open Tryz
open Go.RowKit Go.Maps Go.Shelf
attribute [local go_sem] Oper.semAt_some
abbrev RE:={ x:Qj // TQ x }
theorem DG(W:World)(o:Obj):W.grownBy (W.alloc o) none:=TD (UP _ _) o
theorem PI(F:Fence)(n:Nat)(h:F.fn 147)(hro:F.round=none)(hn:1≤n)(l Bm b nn:Nat)(D0:DataW Unit)(f:Qj→Option Qx)(hf:SK.Yd D0 f)(J Jx:List RE→World→Prop)
  (hY:∀pre x W,J pre W→pre.length<Maps.size D0→YieldAt F (n-1) prog l #[QZ x.1] W fun e W'=>
   (e=.returned (.bool true)∧J (pre++[x]) W'∧KeepsWalks W W')∨(e=.returned (.bool false)∧Jx (pre++[x]) W'))
  (W:World)(hJ:AbidesFrom W.heap.size J)(hm:W.cell? ⟨Bm,0,none⟩=some (.map (some b)))(hown:W.ownsMap prog 73 SK.R b nn D0)(h0:J [] W):
  CallsIn F n prog 147 #[.func (.yield l) #[] #[],.pointer (some ⟨Bm,0,none⟩)] W fun e W'=>(∃v,e=.returned v)∧
   ((∃ss:List RE,SK.Keys f (ss.map (·.1))∧J ss W')∨(∃pre:List RE,True∧Jx pre W')):=by
 refine callsIn_of_wp func147 rfl h ?_ hro;simp only[ntmps147,List.size_toArray,List.length_cons,List.length_nil,Nat.reduceAdd,Nat.reduceSub,Array.replicate_succ,Array.replicate_zero,List.push_toArray,List.append_toArray,List.nil_append,List.cons_append]
 gi_wp2_with (first
  |(gi_at_range;refine wpListIn_range_own _ rfl _ 125 rfl 73 142 Vs underlying125 _ b nn _ rfl hown ?_;intro w0 hrg0 hg0 hs0)
  |gi_in)
 go_frame
 gi_loopw [7] (fun _ wr=>∃(left:Lit→Bool)(cnt:Nat)(ss:List RE),wr.ranges prog 73 SK.R b W.heap.size nn D0 left cnt∧ss.length+cnt≤Maps.size D0∧SK.Y8 f left (ss.map (·.1))∧J ss wr)
  (fun _ wr=>wr.rangeLeft b W.heap.size)
 case atStart=>
  exact⟨_,_,[],hrg0,by simp,KV.Y8.start hf,hJ [] W w0 none h0 hg0 (fun r e=>by cases e)⟩
 obtain⟨left,cnt,ss,j,a3,hC,k⟩:=hrel
 gi_wp2_with (first
  |(gi_at_next;refine wpListIn_next_ranges _ rfl _ rfl 73 Vs SK.R QZ id (fun key kl hk=>by obtain⟨x,_,hx,_⟩:=Je hk;exact⟨x,hx⟩) (fun v _ _=>⟨v,rfl⟩) b W.heap.size nn _ _ _ rfl j ?_ ?_)
  |gi_in)
 ·intro hc0 hl0
  gi_wp2
  go_end0
  exact⟨⟨_,rfl⟩,.inl ⟨ss,hC.done hl0,k⟩⟩
 intro x1 x2 c kl yd yp w2 cnt2 hkey hlk hv hat hrg2 hlt hg2 hs2 hen;obtain⟨x',d,ex,rfl⟩:=Je hkey;obtain rfl:(x1,x2)=x':=V6 ex;obtain⟨a,ha,_⟩:=KV.Yd.here hf d hat;have s:J ss w2:=hJ ss wr w2 (some W.heap.size) k hg2 (fun r e=>by cases e;exact⟨nR,j.iter_walk⟩);have o:=hC.step d hlk (by rw[ha];rfl);clear hs2;have t:SK.Y8 f (fun z=>left z&& !z.sameKey (Ro (x1,x2))) ((ss++[(⟨(x1,x2),d⟩:RE)]).map (fun x=>x.1)):=by rw[List.map_append];exact o
 have i:QZ (x1,x2)=.agg #[.int .i64 x1,.int .i64 x2]:=rfl;rw[i]at hen;rw[i];have y:=DG w2 (.cells #[.int .i64 x1,.int .i64 x2] 73);have w:=hJ _ _ _ _ s y (fun r e=>by cases e);obtain⟨fn,a2,a0,a1,hy,hR⟩:=hY ss ⟨(x1,x2),d⟩ _ w (by omega);simp only[i]at hy;have p:KeepsWalks w2 (w2.alloc (.cells #[.int .i64 x1,.int .i64 x2] 73)):=KeepsWalks.alloc _ _
 gi_wp2
 refine hR.mono ?_;rintro e W3 (⟨rfl,u,q⟩|⟨rfl,m⟩)
 ·gi_wp2
  have g:=hrg2.of_walks (p.trans q);go_roundw
  case rel=>exact⟨_,cnt2,ss++[⟨(x1,x2),d⟩],g,by simp;omega,t,u⟩
  case measure=>rw[g.left_eq,j.left_eq];exact hlt
 gi_wp2
 refine bodyPost_ret (results_none rfl _ _ _) rfl ?_;exact⟨⟨_,rfl⟩,.inr ⟨ss++[⟨(x1,x2),d⟩],trivial,m⟩⟩
theorem Mg(F:Fence)(n:Nat)(h:F.fn 88)(hro:F.round=none)(mb:Option Nat)(w:World):
  CallsIn F n prog 88 #[.map mb] w fun e w'=>e=.returned (.func (.func 147) #[] #[.pointer (some ⟨w.heap.size,0,none⟩)])∧w'=w.alloc (.cells #[.map mb] 125):=by
 refine callsIn_of_wp func88 rfl h ?_ hro;simp only[ntmps88,List.size_toArray,List.length_cons,List.length_nil,Nat.reduceAdd,Nat.reduceSub,Array.replicate_succ,Array.replicate_zero,List.push_toArray,List.append_toArray,List.nil_append,List.cons_append]
 gi_wp2
 go_ret;exact⟨rfl,rfl⟩
theorem Rq(F:Fence)(n:Nat)(h:F.fn 147)(hro:F.round=none)(hn:1≤n)(Bm b nn:Nat)(D0:DataW Unit)(f:Qj→Option Qx)(hf:SK.Yd D0 f)(w:World)(hBm:Bm<w.heap.size)
  (hm:w.cell? ⟨Bm,0,none⟩=some (.map (some b)))(hown:w.ownsMap prog 73 SK.R b nn D0):
  SeqStopsK F n prog 147 #[.pointer (some ⟨Bm,0,none⟩)] (fun x:RE=>#[QZ x.1]) KeepsWalks (fun ss=>SK.Keys f (ss.map (·.1))) (fun _=>True) (Maps.size D0) w:=fun l J Jx W hW hJ _ hY h0=>by
 have a:W.ownsMap prog 73 SK.R b nn D0:=by
  have d:=hown.lt;obtain⟨es,c,hb,Ft,hs,hD⟩:=hown;exact⟨es,c,(hW.block b d).trans hb,Ft,hs,hD⟩
 exact PI F n h hro hn l Bm b nn D0 f hf J Jx hY W hJ ((hW.cell (p:=⟨Bm,0,none⟩) hBm).trans hm) a h0
def VD(n:Qj):List Value:=[.int .i64 n.1,.int .i64 n.2]
def QV(l:List Qj):List Value:=l.flatMap VD
theorem ZK(a b:List Qj):QV (a++b)=QV a++QV b:=by unfold QV;rw[List.flatMap_append]
theorem Ki(l:List Qj):(QV l).length=l.length*2:=by
 induction l with
 |nil=>rfl
 |cons a l ih=>unfold QV at ih ⊢;simp[List.flatMap_cons,VD,ih];omega
theorem DS:prog.underlying 81=some (.slice 73):=by kernel_rfl
theorem CE:(prog.info? 73).map (fun i=>(i.zero,i.size,i.bytes))=some (some (.agg #[.int .i64 0,.int .i64 0]),2,16):=by kernel_rfl
theorem MM(n:Nat)(hn:3≤n)(Bm b nn:Nat)(D0:DataW Unit)(f:Qj→Option Qx)(hf:SK.Yd D0 f)(w:World)(hBm:Bm<w.heap.size)(hm:w.cell? ⟨Bm,0,none⟩=some (.map (some b)))(hown:w.ownsMap prog 73 SK.R b nn D0)(hN:Maps.size D0≤1000000):
  CallsIn Fence.wide n prog 179 #[.slice none 0 0,.func (.func 147) #[] #[.pointer (some ⟨Bm,0,none⟩)]] w fun e w'=>∃(v:Value)(ss:List Qj),e=.returned v∧SK.Keys f ss∧w'.ownsRow w.heap.size 73 2 v ss.length (QV ss)∧Below w.heap.size w w':=by
 have h1:1≤n:=by omega
 obtain⟨i0,hi,C,y,F⟩:=info_parts CE;refine callsIn_of_wp_marks func179 rfl trivial ?_ rfl;simp only[ntmps179,List.size_toArray,List.length_cons,List.length_nil,Nat.reduceAdd,Nat.reduceSub,Array.replicate_succ,Array.replicate_zero,List.push_toArray,List.append_toArray,List.nil_append,List.cons_append]
 gi_wp2
 have bO:=Boxed.new w 81 (.slice none 0 0);have k:Below w.heap.size w (w.alloc (.cells #[.slice none 0 0] 81)):=(Below.refl _ w).alloc nR _;have J:(w.alloc (.cells #[.slice none 0 0] 81)).cell? ⟨Bm,0,none⟩=some (.map (some b)):=(k.cell (p:=⟨Bm,0,none⟩) hBm).trans hm;have m:(w.alloc (.cells #[.slice none 0 0] 81)).ownsMap prog 73 SK.R b nn D0:=by
  have I:=hown.lt;obtain⟨es,i,hb,Ft,hs,hD⟩:=hown;exact⟨es,i,(k.block b I).trans hb,Ft,hs,hD⟩
 refine wpIn_rangeFunc_ownH rfl h1 (gf:=147) (lb:=#[.pointer (some ⟨Bm,0,none⟩)]) rfl trivial (enters_of func147 (by kernel_rfl) rfl)
  (Rq Fence.wide (n-1) trivial rfl (by omega) Bm b nn D0 f hf _ (by simp;omega) J m) walksK_t walksK_b bR (fun _=>rfl)
  (fun d W=>(∃v,Boxed W w.heap.size 81 v∧W.ownsRow w.heap.size 73 2 v d.length (QV (d.map (·.1)))∧True)∧Below w.heap.size w W)
  (fun _ _ _=>False) ?hI (fun _ _ _ _ _ hs _ _=>hs) ⟨⟨_,bO,World.ownsRow_nil _ _ _ _,trivial⟩,k⟩
  (fun x a' W=>∃Bx,w.heap.size<Bx∧Qh W Bx 73 #[.int .i64 x.1.1,.int .i64 x.1.2]∧a'={ tmps:=#[.slice none 0 0,.func (.func 147) #[] #[.pointer (some ⟨Bm,0,none⟩)],.pointer (some ⟨w.heap.size,0,none⟩),undef,.slice none 0 0,.pointer (some ⟨Bx,0,none⟩),.func (.func 147) #[] #[.pointer (some ⟨Bm,0,none⟩)],QZ x.1,undef,undef,undef,undef,undef],defers:=[] }) ?hAx ?assign ?body ?done ?stop
 case hI=>exact OwnFrom.and (Own.from (holdsRow_own w.heap.size w.heap.size 81 73 2 (fun d:List RE=>d.length) (fun d=>QV (d.map (·.1))) (fun _ _=>True)) _) (ownFrom_below nR (by simp))
 case hAx=>
  rintro x a' s A B row ⟨Bx,e1,e2,e3⟩ hg hr;refine⟨Bx,e1,e2.grown hg (fun e=> ?_),e3⟩;obtain⟨_,o,ho,hc⟩:=hr _ e;unfold Qh at e2;rw[e2]at ho;cases ho;cases hc
 case assign=>
  rintro l d ⟨⟨x1,x2⟩,hx⟩ W K ⟨⟨v,hv,a,_⟩,hB⟩ hK;have g:QZ (x1,x2)=.agg #[.int .i64 x1,.int .i64 x2]:=rfl;simp only[g];simp only[g]at hK
  gi_wp2
  exact hK _ _ ((KeepsOthers.alloc _ _).from _) (KeepsWalks.alloc _ _) ⟨⟨v,hv.alloc _,a.alloc _,trivial⟩,hB.alloc hB.size _⟩ ⟨W.heap.size,hv.lt,Qh.new _ _ _,rfl⟩
 case body=>
  rintro l d ⟨⟨x1,x2⟩,hx⟩ a' W hl ⟨r,hr⟩ ⟨⟨v,hv,a,_⟩,hB⟩ ⟨Bx,a3,bX,rfl⟩ a1;have g:QZ (x1,x2)=.agg #[.int .i64 x1,.int .i64 x2]:=rfl;simp only[g];simp only at bX;have hc:=hv.cell;have c0:W.cell? ⟨Bx,0,none⟩=some (.int .i64 x1):=bX.cell 0;have c1:W.cell? ⟨Bx,1,none⟩=some (.int .i64 x2):=bX.cell 1
  gi_wp2_with (gi_at_builtin;refine wpListIn_append_own _ rfl _ _ 81 rfl w.heap.size 73 i0 _ 2 16 DS hi C y F rfl (by decide) _ _ _ rfl (a.alloc _) ⟨W.heap.size,0,none⟩ 1 1 [.int .i64 x1,.int .i64 x2] rfl rfl (fun j u hj=>by rw[J3,(Qh.new W 73 #[.int .i64 x1,.int .i64 x2]).cell];simpa using hj) (by simp[Value.oneCell']) (by unfold maxLen;omega) (by omega) (by have:=hB.size;simp;omega) ?_;intro v' w1 hown' hgrow _;obtain⟨g',a0,rfl⟩:=ownsRow_succ hown';obtain⟨q,E,H,t,G⟩:=hv.appended (by decide) a hB.size nR hown' hgrow;have a2:=q.cell;have a4:=q.frozen)
  refine⟨t.from _,t.walks,⟨⟨_,E, ?_,trivial⟩,hB.trans G⟩⟩;have z:=H;rw[List.map_append,ZK,List.length_append];exact z
 case done=>
  rintro D ys W hD hS ⟨⟨v,hv,a,_⟩,hB⟩ hK;have hc:=hv.cell
  gi_wp2
  refine⟨by simp,.inl ⟨_,_,rfl,run_takeDeferred hK, ?_⟩⟩;exact⟨_,results_tmp rfl _ _ _,v,ys.map (·.1),rfl,hS,by rw[List.length_map];exact ownsRow_putObj a _ hK rfl,hB.trans (belowK_b (w:=w) nR W D _ _ (by simp at hD;omega) hK rfl rfl)⟩
 case stop=>rintro D c d W _ _ h _;exact h.elim
end Go.Proofs.YtmgmfnimaafkdaaGreatDoor
namespace Go.Proofs.YtmgmfnimaafkdaaGreatDoor
open Tryz
open Go.RowKit Go.Maps Go.Shelf Go.Sort
def Ev(a b:Int):Int:=if a<b then-1 else if b<a then 1 else 0
def CY(a b:Int):Int:=if a=0 then b else a
def Db(a b:Qj):Int:=CY (Ev a.1 b.1) (Ev a.2 b.2)
theorem W9(a b:Qj):ltOf Db a b=Wq a b:=by
 unfold ltOf Db CY Ev Wq;by_cases h1:a.1<b.1
 ·simp[h1]
 by_cases h2:b.1<a.1
 ·have:¬a.1=b.1:=by omega
  simp[h1,h2,this]
 have:a.1=b.1:=by omega
 by_cases h3:a.2<b.2
 ·simp[h3,this]
 by_cases h4:b.2<a.2<;>simp[h3,h4,this]
theorem Bg:SWO (ltOf Db) where
 irrefl x:=by rw[W9];exact Bool.eq_false_iff.2 fun h=>M4 h rfl
 trans x y z h1 h2:=by rw[W9]at *; exact Ir h1 h2
 ntrans x y z h1 h2:=by
  rw[W9]at*
  rw[Bool.eq_false_iff]at*
  intro h;rw[Ne,XI]at h1 h2;rw[XI]at h;omega
theorem Bk(x y:Qj)(h1:ltOf Db x y=false)(h2:ltOf Db y x=false):x=y:=by
 rw[W9]at*
 rw[Bool.eq_false_iff,Ne,XI]at h1 h2;exact Prod.ext (by omega) (by omega)
theorem DF(a:Int)(w:World):Calls prog 182 #[.int .i64 a] w fun e w'=>e=.returned (.bool false)∧w=w':=by
 go_enter func182,ntmps182;go_wp2;go_ret;exact⟨rfl,rfl⟩
theorem NZ(a b:Int)(w:World):Calls prog 149 #[.int .i64 a,.int .i64 b] w fun e w'=>e=.returned (.int .i64 (Ev a b))∧w=w':=by
 go_enter func149,ntmps149;go_wp2_with (go_at_call 182;refine(DF _ _).mono ?_;rintro e w' ⟨rfl,rfl⟩)
 all_goals
  go_ret;exact⟨US (by unfold Ev;(repeat' split)<;>omega),rfl⟩
theorem Dd(g:Nat)(x y:Int)(w:World)(hk:Qh w g 3 #[.int .i64 x,.int .i64 y]):Calls prog 148 #[.slice (some ⟨g,0,none⟩) 2 2] w fun e w'=>e=.returned (.int .i64 (CY x y))∧w=w':=by
 have c0:w.cell? ⟨g,0,none⟩=some (.int .i64 x):=(hk.cell 0).trans rfl;have c1:w.cell? ⟨g,1,none⟩=some (.int .i64 y):=(hk.cell 1).trans rfl;clear hk;go_enter func148,ntmps148;go_wp2_with fail
 go_loop [8] (fun i=>i=.int .i64 0∨(i=.int .i64 1∧x=0)∨(i=.int .i64 2∧x=0∧y=0)) (fun i=>2-(intOf i).toNat)
 case atStart=>exact .inl rfl
 rcases hrel with rfl|⟨rfl,rfl⟩|⟨rfl,rfl,rfl⟩
 ·by_cases hx:x=0
  ·subst hx;go_wp2_with fail;exact⟨.inr (.inl ⟨by go_num,by simp⟩),by simp[intOf]⟩
  go_wp2_with fail;go_ret;exact⟨US (by unfold CY;rw[if_neg hx]),rfl⟩
 ·by_cases hy:y=0
  ·subst hy;go_wp2_with fail;exact⟨.inr (.inr ⟨by go_num,by simp⟩),by simp[intOf]⟩
  go_wp2_with fail;go_ret;exact⟨US (by unfold CY;rw[if_pos rfl]),rfl⟩
 go_wp2_with fail;go_ret;exact⟨rfl,rfl⟩
theorem P5(a b:Qj)(w:World):Calls prog 89 #[QZ a,QZ b] w fun e w'=>e=.returned (.int .i64 (Db a b))∧∃q os,w'=grow (w.drewN q) os:=by
 obtain⟨a1,a2⟩:=a;obtain⟨b1,b2⟩:=b;have h0:Qh ((w.alloc (.cells #[.int .i64 a1,.int .i64 a2] 73)).alloc (.cells #[.int .i64 b1,.int .i64 b2] 73)) w.heap.size 73 #[.int .i64 a1,.int .i64 a2]:=(Qh.new _ _ _).alloc _;have h1:Qh ((w.alloc (.cells #[.int .i64 a1,.int .i64 a2] 73)).alloc (.cells #[.int .i64 b1,.int .i64 b2] 73)) (w.heap.size+1) 73 #[.int .i64 b1,.int .i64 b2]:=Qh.Qz (by simp);have HG:Qb (∀o,∃q' os,(((w.alloc (.cells #[.int .i64 a1,.int .i64 a2] 73)).alloc (.cells #[.int .i64 b1,.int .i64 b2] 73)).alloc o).drew=grow (w.drewN q') os):=by
  show ∀o,∃q' os,(((w.alloc (.cells #[.int .i64 a1,.int .i64 a2] 73)).alloc (.cells #[.int .i64 b1,.int .i64 b2] 73)).alloc o).drew=grow (w.drewN q') os;intro o;refine⟨1,#[.cells #[.int .i64 a1,.int .i64 a2] 73]++#[.cells #[.int .i64 b1,.int .i64 b2] 73]++#[o], ?_⟩;rw[alloc_eq_grow,alloc_eq_grow,alloc_eq_grow,grow_grow,grow_grow];rfl
 have HO:=Qa (fun g x y w hk=>Dd g x y w hk);unfold QZ;simp only;go_enter func89,ntmps89;go_upto_region 1 with fail;generalize (w.alloc (.cells #[.int .i64 a1,.int .i64 a2] 73)).alloc (.cells #[.int .i64 b1,.int .i64 b2] 73)=w1 at*
 have c0:w1.cell? ⟨w.heap.size,0,none⟩=some (.int .i64 a1):=(h0.cell 0).trans rfl;have c1:w1.cell? ⟨w.heap.size,1,none⟩=some (.int .i64 a2):=(h0.cell 1).trans rfl;have d0:w1.cell? ⟨w.heap.size+1,0,none⟩=some (.int .i64 b1):=(h1.cell 0).trans rfl;have d1:w1.cell? ⟨w.heap.size+1,1,none⟩=some (.int .i64 b2):=(h1.cell 1).trans rfl;have l0:=h0.lt;have l1:=h1.lt;clear h0 h1
 go_region_law (first
  |(go_simp;go_at_call 149;refine(NZ _ _ _).mono ?_;rintro en w' ⟨rfl,rfl⟩)
  |(go_simp;go_at_call 148;refine(HO.o _ _ _ _ (Qh.drew (Qh.new _ _ _))).mono ?_;rintro en w' ⟨rfl,rfl⟩))
 all_goals
  go_wp2_with fail;go_ret;exact⟨rfl,HG.o _⟩
end Go.Proofs.YtmgmfnimaafkdaaGreatDoor
namespace Go.Proofs
open Go.Shelf
def Tryz.TS:Go.Shelf.Ren:=⟨fun|7=>91|10=>152|n=>n,fun|23=>124|26=>2|3=>9|28=>182|0=>0|27=>181|33=>207|4=>4|n=>n,fun|n=>n⟩
theorem Tryz.Ca:Go.Proofs.SlLaysZI.n7 Tryz.prog Tryz.TS:={
 mixed:=by kernel_rfl
 f7:=⟨Tryz.f91.name,by decide,Tryz.func91.trans (congrArg some (by kernel_rfl))⟩
 f10:=⟨Tryz.f152.name,by decide,Tryz.func152.trans (congrArg some (by kernel_rfl))⟩
 t0:=Tryz.underlying0
 a0:=Tryz.isAgg0
 z0:=Tryz.sizeOf0
 v0:=Tryz.zeroValue0
 t4:=Tryz.underlying4
 a4:=Tryz.isAgg4
 z4:=Tryz.sizeOf4
 v4:=Tryz.zeroValue4
 t23:=Tryz.underlying124
 a23:=Tryz.isAgg124
 z23:=Tryz.sizeOf124
 v23:=Tryz.zeroValue124
 t26:=Tryz.underlying2
 a26:=Tryz.isAgg2
 z26:=Tryz.sizeOf2
 v26:=Tryz.zeroValue2
 t27:=Tryz.underlying181
 a27:=Tryz.isAgg181
 z27:=Tryz.sizeOf181
 v27:=Tryz.zeroValue181
 t28:=Tryz.underlying182
 a28:=Tryz.isAgg182
 z28:=Tryz.sizeOf182
 v28:=Tryz.zeroValue182
 t33:=Tryz.underlying207
 a33:=Tryz.isAgg207
 z33:=Tryz.sizeOf207
 v33:=Tryz.zeroValue207 }
def Tryz.Wg:Go.Shelf.Ren:=⟨fun|6=>90|8=>150|9=>151|11=>183|13=>181|12=>184|23=>204|24=>205|14=>206|15=>207|16=>208|17=>209|18=>210|19=>211|20=>153|21=>212|22=>213|25=>236|26=>232|27=>233|28=>237|29=>238|30=>182|31=>250|n=>n,fun|26=>2|28=>182|24=>83|0=>0|3=>3|37=>244|48=>264|50=>263|4=>4|40=>304|39=>303|45=>190|5=>5|9=>9|51=>329|55=>333|57=>345|58=>49|33=>207|n=>n,fun|n=>n⟩
theorem Tryz.DQ:Go.Proofs.SlLaysZI.n6 Tryz.prog Tryz.Wg:={
 mixed:=by kernel_rfl
 f6:=⟨Tryz.f90.name,by decide,Tryz.func90.trans (congrArg some (by kernel_rfl))⟩
 f8:=⟨Tryz.f150.name,by decide,Tryz.func150.trans (congrArg some (by kernel_rfl))⟩
 f11:=⟨Tryz.f183.name,by decide,Tryz.func183.trans (congrArg some (by kernel_rfl))⟩
 t0:=Tryz.underlying0
 a0:=Tryz.isAgg0
 z0:=Tryz.sizeOf0
 v0:=Tryz.zeroValue0
 t24:=Tryz.underlying83
 a24:=Tryz.isAgg83
 z24:=Tryz.sizeOf83
 v24:=Tryz.zeroValue83
 t26:=Tryz.underlying2
 a26:=Tryz.isAgg2
 z26:=Tryz.sizeOf2
 v26:=Tryz.zeroValue2
 t28:=Tryz.underlying182
 a28:=Tryz.isAgg182
 z28:=Tryz.sizeOf182
 v28:=Tryz.zeroValue182
 i26:=by kernel_rfl }
def Tryz.GZ:Go.Shelf.Ren:=⟨fun|5=>151|8=>181|7=>184|19=>204|20=>205|10=>206|11=>207|12=>208|13=>209|14=>210|15=>211|16=>153|17=>212|18=>213|30=>236|31=>232|32=>233|33=>237|34=>238|35=>182|40=>250|n=>n,fun|23=>83|25=>2|3=>3|32=>244|22=>83|0=>0|44=>264|46=>263|4=>4|36=>304|35=>303|41=>190|5=>5|9=>9|53=>329|57=>333|63=>345|64=>49|n=>n,fun|n=>n⟩
theorem Tryz.DY:Go.Proofs.SlLaysM.n5 Tryz.prog Tryz.GZ:={
 mixed:=by kernel_rfl
 f5:=⟨Tryz.f151.name,by decide,Tryz.func151.trans (congrArg some (by kernel_rfl))⟩
 f7:=⟨Tryz.f184.name,by decide,Tryz.func184.trans (congrArg some (by kernel_rfl))⟩
 f8:=Tryz.func181.trans (congrArg some (by kernel_rfl))
 f10:=⟨Tryz.f206.name,by decide,Tryz.func206.trans (congrArg some (by kernel_rfl))⟩
 f11:=⟨Tryz.f207.name,by decide,Tryz.func207.trans (congrArg some (by kernel_rfl))⟩
 f12:=⟨Tryz.f208.name,by decide,Tryz.func208.trans (congrArg some (by kernel_rfl))⟩
 f13:=⟨Tryz.f209.name,by decide,Tryz.func209.trans (congrArg some (by kernel_rfl))⟩
 f14:=⟨Tryz.f210.name,by decide,Tryz.func210.trans (congrArg some (by kernel_rfl))⟩
 f15:=⟨Tryz.f211.name,by decide,Tryz.func211.trans (congrArg some (by kernel_rfl))⟩
 f16:=⟨Tryz.f153.name,by decide,Tryz.func153.trans (congrArg some (by kernel_rfl))⟩
 f17:=⟨Tryz.f212.name,by decide,Tryz.func212.trans (congrArg some (by kernel_rfl))⟩
 f18:=⟨Tryz.f213.name,by decide,Tryz.func213.trans (congrArg some (by kernel_rfl))⟩
 f19:=Tryz.func204.trans (congrArg some (by kernel_rfl))
 f20:=Tryz.func205.trans (congrArg some (by kernel_rfl))
 f30:=⟨Tryz.f236.name,by decide,Tryz.func236.trans (congrArg some (by kernel_rfl))⟩
 f31:=Tryz.func232.trans (congrArg some (by kernel_rfl))
 f32:=Tryz.func233.trans (congrArg some (by kernel_rfl))
 f33:=⟨Tryz.f237.name,by decide,Tryz.func237.trans (congrArg some (by kernel_rfl))⟩
 f34:=⟨Tryz.f238.name,by decide,Tryz.func238.trans (congrArg some (by kernel_rfl))⟩
 f35:=⟨Tryz.f182.name,by decide,Tryz.func182.trans (congrArg some (by kernel_rfl))⟩
 f40:=⟨Tryz.f250.name,by decide,Tryz.func250.trans (congrArg some (by kernel_rfl))⟩
 t0:=Tryz.underlying0
 a0:=Tryz.isAgg0
 z0:=Tryz.sizeOf0
 v0:=Tryz.zeroValue0
 t3:=Tryz.underlying3
 a3:=Tryz.isAgg3
 z3:=Tryz.sizeOf3
 v3:=Tryz.zeroValue3
 t4:=Tryz.underlying4
 a4:=Tryz.isAgg4
 z4:=Tryz.sizeOf4
 v4:=Tryz.zeroValue4
 t5:=Tryz.underlying5
 a5:=Tryz.isAgg5
 z5:=Tryz.sizeOf5
 v5:=Tryz.zeroValue5
 t9:=Tryz.underlying9
 a9:=Tryz.isAgg9
 z9:=Tryz.sizeOf9
 v9:=Tryz.zeroValue9
 t22:=Tryz.underlying83
 a22:=Tryz.isAgg83
 z22:=Tryz.sizeOf83
 v22:=Tryz.zeroValue83
 t23:=Tryz.underlying83
 a23:=Tryz.isAgg83
 z23:=Tryz.sizeOf83
 v23:=Tryz.zeroValue83
 t25:=Tryz.underlying2
 a25:=Tryz.isAgg2
 z25:=Tryz.sizeOf2
 v25:=Tryz.zeroValue2
 t32:=Tryz.underlying244
 a32:=Tryz.isAgg244
 z32:=Tryz.sizeOf244
 v32:=Tryz.zeroValue244
 t35:=Tryz.underlying303
 a35:=Tryz.isAgg303
 z35:=Tryz.sizeOf303
 v35:=Tryz.zeroValue303
 t36:=Tryz.underlying304
 a36:=Tryz.isAgg304
 z36:=Tryz.sizeOf304
 v36:=Tryz.zeroValue304
 t41:=Tryz.underlying190
 a41:=Tryz.isAgg190
 z41:=Tryz.sizeOf190
 v41:=Tryz.zeroValue190
 t44:=Tryz.underlying264
 a44:=Tryz.isAgg264
 z44:=Tryz.sizeOf264
 v44:=Tryz.zeroValue264
 t46:=Tryz.underlying263
 a46:=Tryz.isAgg263
 z46:=Tryz.sizeOf263
 v46:=Tryz.zeroValue263
 t53:=Tryz.underlying329
 a53:=Tryz.isAgg329
 z53:=Tryz.sizeOf329
 v53:=Tryz.zeroValue329
 t57:=Tryz.underlying333
 a57:=Tryz.isAgg333
 z57:=Tryz.sizeOf333
 v57:=Tryz.zeroValue333
 t63:=Tryz.underlying345
 a63:=Tryz.isAgg345
 z63:=Tryz.sizeOf345
 v63:=Tryz.zeroValue345
 t64:=Tryz.underlying49
 a64:=Tryz.isAgg49
 z64:=Tryz.sizeOf49
 v64:=Tryz.zeroValue49 }
def Tryz.RO:Go.Shelf.Ren:=⟨fun|6=>146|15=>181|14=>180|28=>204|29=>205|20=>196|21=>197|22=>198|23=>199|24=>200|25=>201|26=>202|27=>203|46=>231|47=>232|48=>233|49=>234|50=>235|57=>249|n=>n,fun|22=>81|24=>73|25=>179|3=>3|39=>244|0=>0|53=>264|55=>263|4=>4|46=>304|45=>303|50=>190|5=>5|9=>9|66=>329|70=>333|76=>345|77=>49|n=>n,fun|n=>n⟩
theorem Tryz.F5:Go.Proofs.SlLaysF0.n6 Tryz.prog Tryz.RO:={
 mixed:=by kernel_rfl
 f6:=⟨Tryz.f146.name,by decide,Tryz.func146.trans (congrArg some (by kernel_rfl))⟩
 f14:=⟨Tryz.f180.name,by decide,Tryz.func180.trans (congrArg some (by kernel_rfl))⟩
 f15:=Tryz.func181.trans (congrArg some (by kernel_rfl))
 f20:=⟨Tryz.f196.name,by decide,Tryz.func196.trans (congrArg some (by kernel_rfl))⟩
 f21:=⟨Tryz.f197.name,by decide,Tryz.func197.trans (congrArg some (by kernel_rfl))⟩
 f22:=⟨Tryz.f198.name,by decide,Tryz.func198.trans (congrArg some (by kernel_rfl))⟩
 f23:=⟨Tryz.f199.name,by decide,Tryz.func199.trans (congrArg some (by kernel_rfl))⟩
 f24:=⟨Tryz.f200.name,by decide,Tryz.func200.trans (congrArg some (by kernel_rfl))⟩
 f25:=⟨Tryz.f201.name,by decide,Tryz.func201.trans (congrArg some (by kernel_rfl))⟩
 f26:=⟨Tryz.f202.name,by decide,Tryz.func202.trans (congrArg some (by kernel_rfl))⟩
 f27:=⟨Tryz.f203.name,by decide,Tryz.func203.trans (congrArg some (by kernel_rfl))⟩
 f28:=Tryz.func204.trans (congrArg some (by kernel_rfl))
 f29:=Tryz.func205.trans (congrArg some (by kernel_rfl))
 f46:=⟨Tryz.f231.name,by decide,Tryz.func231.trans (congrArg some (by kernel_rfl))⟩
 f47:=Tryz.func232.trans (congrArg some (by kernel_rfl))
 f48:=Tryz.func233.trans (congrArg some (by kernel_rfl))
 f49:=⟨Tryz.f234.name,by decide,Tryz.func234.trans (congrArg some (by kernel_rfl))⟩
 f50:=⟨Tryz.f235.name,by decide,Tryz.func235.trans (congrArg some (by kernel_rfl))⟩
 f57:=⟨Tryz.f249.name,by decide,Tryz.func249.trans (congrArg some (by kernel_rfl))⟩
 t0:=Tryz.underlying0
 a0:=Tryz.isAgg0
 z0:=Tryz.sizeOf0
 v0:=Tryz.zeroValue0
 t3:=Tryz.underlying3
 a3:=Tryz.isAgg3
 z3:=Tryz.sizeOf3
 v3:=Tryz.zeroValue3
 t4:=Tryz.underlying4
 a4:=Tryz.isAgg4
 z4:=Tryz.sizeOf4
 v4:=Tryz.zeroValue4
 t5:=Tryz.underlying5
 a5:=Tryz.isAgg5
 z5:=Tryz.sizeOf5
 v5:=Tryz.zeroValue5
 t9:=Tryz.underlying9
 a9:=Tryz.isAgg9
 z9:=Tryz.sizeOf9
 v9:=Tryz.zeroValue9
 t22:=Tryz.underlying81
 a22:=Tryz.isAgg81
 z22:=Tryz.sizeOf81
 v22:=Tryz.zeroValue81
 t25:=Tryz.underlying179
 a25:=Tryz.isAgg179
 z25:=Tryz.sizeOf179
 v25:=Tryz.zeroValue179
 t39:=Tryz.underlying244
 a39:=Tryz.isAgg244
 z39:=Tryz.sizeOf244
 v39:=Tryz.zeroValue244
 t45:=Tryz.underlying303
 a45:=Tryz.isAgg303
 z45:=Tryz.sizeOf303
 v45:=Tryz.zeroValue303
 t46:=Tryz.underlying304
 a46:=Tryz.isAgg304
 z46:=Tryz.sizeOf304
 v46:=Tryz.zeroValue304
 t50:=Tryz.underlying190
 a50:=Tryz.isAgg190
 z50:=Tryz.sizeOf190
 v50:=Tryz.zeroValue190
 t53:=Tryz.underlying264
 a53:=Tryz.isAgg264
 z53:=Tryz.sizeOf264
 v53:=Tryz.zeroValue264
 t55:=Tryz.underlying263
 a55:=Tryz.isAgg263
 z55:=Tryz.sizeOf263
 v55:=Tryz.zeroValue263
 t66:=Tryz.underlying329
 a66:=Tryz.isAgg329
 z66:=Tryz.sizeOf329
 v66:=Tryz.zeroValue329
 t70:=Tryz.underlying333
 a70:=Tryz.isAgg333
 z70:=Tryz.sizeOf333
 v70:=Tryz.zeroValue333
 t76:=Tryz.underlying345
 a76:=Tryz.isAgg345
 z76:=Tryz.sizeOf345
 v76:=Tryz.zeroValue345
 t77:=Tryz.underlying49
 a77:=Tryz.isAgg49
 z77:=Tryz.sizeOf49
 v77:=Tryz.zeroValue49 }
def Tryz.Pd:Go.Shelf.Ren:=⟨fun|174=>169|247=>193|245=>194|287=>226|279=>227|280=>228|281=>229|282=>230|321=>244|322=>245|316=>246|171=>248|205=>247|243=>251|246=>156|283=>186|284=>187|285=>188|286=>189|129=>205|317=>214|318=>215|319=>216|320=>217|337=>239|338=>240|n=>n,fun|9=>9|3=>3|2=>2|75=>198|85=>271|4=>4|167=>323|5=>5|53=>263|175=>324|46=>244|168=>326|37=>43|0=>0|210=>343|21=>21|127=>259|145=>356|143=>354|171=>293|173=>295|212=>316|51=>264|20=>20|213=>317|232=>348|233=>349|80=>204|n=>n,fun|15=>3|16=>4|17=>0|18=>5|19=>6|n=>n⟩
theorem Tryz.Es:Go.Proofs.LaysC.n174 Tryz.prog Tryz.Pd:={
 mixed:=by kernel_rfl
 f129:=Tryz.func205.trans (congrArg some (by kernel_rfl))
 f171:=Tryz.func248.trans (congrArg some (by kernel_rfl))
 f174:=Tryz.func169.trans (congrArg some (by kernel_rfl))
 f205:=Tryz.func247.trans (congrArg some (by kernel_rfl))
 f243:=Tryz.func251.trans (congrArg some (by kernel_rfl))
 f245:=Tryz.func194.trans (congrArg some (by kernel_rfl))
 f246:=Tryz.func156.trans (congrArg some (by kernel_rfl))
 f247:=Tryz.func193.trans (congrArg some (by kernel_rfl))
 f279:=Tryz.func227.trans (congrArg some (by kernel_rfl))
 f280:=Tryz.func228.trans (congrArg some (by kernel_rfl))
 f281:=Tryz.func229.trans (congrArg some (by kernel_rfl))
 f282:=Tryz.func230.trans (congrArg some (by kernel_rfl))
 f283:=Tryz.func186.trans (congrArg some (by kernel_rfl))
 f284:=Tryz.func187.trans (congrArg some (by kernel_rfl))
 f285:=Tryz.func188.trans (congrArg some (by kernel_rfl))
 f286:=Tryz.func189.trans (congrArg some (by kernel_rfl))
 f287:=Tryz.func226.trans (congrArg some (by kernel_rfl))
 f316:=Tryz.func246.trans (congrArg some (by kernel_rfl))
 f317:=Tryz.func214.trans (congrArg some (by kernel_rfl))
 f318:=Tryz.func215.trans (congrArg some (by kernel_rfl))
 f319:=Tryz.func216.trans (congrArg some (by kernel_rfl))
 f320:=Tryz.func217.trans (congrArg some (by kernel_rfl))
 f321:=Tryz.func244.trans (congrArg some (by kernel_rfl))
 f322:=Tryz.func245.trans (congrArg some (by kernel_rfl))
 f337:=Tryz.func239.trans (congrArg some (by kernel_rfl))
 f338:=Tryz.func240.trans (congrArg some (by kernel_rfl))
 t0:=Tryz.underlying0
 a0:=Tryz.isAgg0
 z0:=Tryz.sizeOf0
 v0:=Tryz.zeroValue0
 t2:=Tryz.underlying2
 a2:=Tryz.isAgg2
 z2:=Tryz.sizeOf2
 v2:=Tryz.zeroValue2
 t3:=Tryz.underlying3
 a3:=Tryz.isAgg3
 z3:=Tryz.sizeOf3
 v3:=Tryz.zeroValue3
 t4:=Tryz.underlying4
 a4:=Tryz.isAgg4
 z4:=Tryz.sizeOf4
 v4:=Tryz.zeroValue4
 t5:=Tryz.underlying5
 a5:=Tryz.isAgg5
 z5:=Tryz.sizeOf5
 v5:=Tryz.zeroValue5
 t9:=Tryz.underlying9
 a9:=Tryz.isAgg9
 z9:=Tryz.sizeOf9
 v9:=Tryz.zeroValue9
 t20:=Tryz.underlying20
 a20:=Tryz.isAgg20
 z20:=Tryz.sizeOf20
 v20:=Tryz.zeroValue20
 t21:=Tryz.underlying21
 a21:=Tryz.isAgg21
 z21:=Tryz.sizeOf21
 v21:=Tryz.zeroValue21
 t37:=Tryz.underlying43
 a37:=Tryz.isAgg43
 z37:=Tryz.sizeOf43
 v37:=Tryz.zeroValue43
 t46:=Tryz.underlying244
 a46:=Tryz.isAgg244
 z46:=Tryz.sizeOf244
 v46:=Tryz.zeroValue244
 t51:=Tryz.underlying264
 a51:=Tryz.isAgg264
 z51:=Tryz.sizeOf264
 v51:=Tryz.zeroValue264
 t53:=Tryz.underlying263
 a53:=Tryz.isAgg263
 z53:=Tryz.sizeOf263
 v53:=Tryz.zeroValue263
 t75:=Tryz.underlying198
 a75:=Tryz.isAgg198
 z75:=Tryz.sizeOf198
 v75:=Tryz.zeroValue198
 t85:=Tryz.underlying271
 a85:=Tryz.isAgg271
 z85:=Tryz.sizeOf271
 v85:=Tryz.zeroValue271
 t127:=Tryz.underlying259
 a127:=Tryz.isAgg259
 z127:=Tryz.sizeOf259
 v127:=Tryz.zeroValue259
 t143:=Tryz.underlying354
 a143:=Tryz.isAgg354
 z143:=Tryz.sizeOf354
 v143:=Tryz.zeroValue354
 t145:=Tryz.underlying356
 a145:=Tryz.isAgg356
 z145:=Tryz.sizeOf356
 v145:=Tryz.zeroValue356
 t167:=Tryz.underlying323
 a167:=Tryz.isAgg323
 z167:=Tryz.sizeOf323
 v167:=Tryz.zeroValue323
 t168:=Tryz.underlying326
 a168:=Tryz.isAgg326
 z168:=Tryz.sizeOf326
 v168:=Tryz.zeroValue326
 t171:=Tryz.underlying293
 a171:=Tryz.isAgg293
 z171:=Tryz.sizeOf293
 v171:=Tryz.zeroValue293
 t173:=Tryz.underlying295
 a173:=Tryz.isAgg295
 z173:=Tryz.sizeOf295
 v173:=Tryz.zeroValue295
 t175:=Tryz.underlying324
 a175:=Tryz.isAgg324
 z175:=Tryz.sizeOf324
 v175:=Tryz.zeroValue324
 t210:=Tryz.underlying343
 a210:=Tryz.isAgg343
 z210:=Tryz.sizeOf343
 v210:=Tryz.zeroValue343
 t212:=Tryz.underlying316
 a212:=Tryz.isAgg316
 z212:=Tryz.sizeOf316
 v212:=Tryz.zeroValue316
 t213:=Tryz.underlying317
 a213:=Tryz.isAgg317
 z213:=Tryz.sizeOf317
 t232:=Tryz.underlying348
 a232:=Tryz.isAgg348
 z232:=Tryz.sizeOf348
 v232:=Tryz.zeroValue348
 t233:=Tryz.underlying349
 a233:=Tryz.isAgg349
 z233:=Tryz.sizeOf349
 v233:=Tryz.zeroValue349
 g15:=by kernel_rfl
 g16:=by kernel_rfl
 g17:=by kernel_rfl
 g18:=by kernel_rfl
 g19:=by kernel_rfl
 t80:=Tryz.underlying204
 a80:=Tryz.isAgg204
 z80:=Tryz.sizeOf204
 v80:=Tryz.zeroValue204
 i0:=by kernel_rfl
 i2:=by kernel_rfl
 i3:=by kernel_rfl
 i4:=by kernel_rfl
 i5:=by kernel_rfl
 i9:=by kernel_rfl
 i20:=by kernel_rfl
 i21:=by kernel_rfl
 i37:=by kernel_rfl
 i46:=by kernel_rfl
 i51:=by kernel_rfl
 i53:=by kernel_rfl
 i75:=by kernel_rfl
 i80:=by kernel_rfl
 i85:=by kernel_rfl
 i127:=by kernel_rfl
 i143:=by kernel_rfl
 i145:=by kernel_rfl
 i167:=by kernel_rfl
 i168:=by kernel_rfl
 i171:=by kernel_rfl
 i173:=by kernel_rfl
 i175:=by kernel_rfl
 i210:=by kernel_rfl
 i212:=by kernel_rfl
 i232:=by kernel_rfl
 i233:=by kernel_rfl
 m15:=by kernel_rfl
 m16:=by kernel_rfl
 m17:=by kernel_rfl
 m18:=by kernel_rfl
 m19:=by kernel_rfl
 c0:=by kernel_rfl
 c2:=by kernel_rfl
 c3:=by kernel_rfl
 c4:=by kernel_rfl
 c5:=by kernel_rfl
 c9:=by kernel_rfl
 c20:=by kernel_rfl
 c21:=by kernel_rfl
 c37:=by kernel_rfl
 c46:=by kernel_rfl
 c51:=by kernel_rfl
 c53:=by kernel_rfl
 c75:=by kernel_rfl
 c80:=by kernel_rfl
 c85:=by kernel_rfl
 c127:=by kernel_rfl
 c143:=by kernel_rfl
 c145:=by kernel_rfl
 c167:=by kernel_rfl
 c168:=by kernel_rfl
 c171:=by kernel_rfl
 c173:=by kernel_rfl
 c175:=by kernel_rfl
 c210:=by kernel_rfl
 c212:=by kernel_rfl
 c213:=by kernel_rfl
 c232:=by kernel_rfl
 c233:=by kernel_rfl }
open Go.RowKit in
theorem Tryz.strconv_ParseInt_10_at64_ok(s:ByteArray)(hmax:s.size≤9223372036854775806)(v:Int)(h:Lib.parseIntB 64 s.data.toList=.ok v)(w:World):
  Calls Tryz.prog 169 #[.string s,.int .i64 10,.int .i64 64] w fun e w'=>e=.returned (.tuple #[.int .i64 v,.nilIface])∧(w'=w∨∃t,w'=Lib.bytesWorld w 5 t):=Any.strconv_ParseInt_10_at64_ok Tryz.Es s hmax v h w
def Tryz.D6:Go.Shelf.Ren:=⟨fun|219=>191|217=>219|225=>220|224=>221|267=>222|266=>241|314=>242|n=>n,fun|9=>9|3=>3|4=>4|5=>5|46=>244|146=>338|51=>264|n=>n,fun|1=>1|n=>n⟩
def Tryz.Mr:Go.Shelf.Ren:=⟨fun|143=>225|219=>191|217=>219|225=>220|224=>221|267=>222|266=>241|314=>242|n=>n,fun|9=>9|3=>3|4=>4|5=>5|46=>244|146=>338|51=>264|n=>n,fun|1=>1|n=>n⟩
theorem Tryz.DP:Go.Proofs.Lays.n143 Tryz.prog Tryz.Mr:={
 mixed:=by kernel_rfl
 f143:=Tryz.func225.trans (congrArg some (by kernel_rfl))
 f217:=Tryz.func219.trans (congrArg some (by kernel_rfl))
 f219:=Tryz.func191.trans (congrArg some (by kernel_rfl))
 f224:=Tryz.func221.trans (congrArg some (by kernel_rfl))
 f225:=Tryz.func220.trans (congrArg some (by kernel_rfl))
 f266:=Tryz.func241.trans (congrArg some (by kernel_rfl))
 f267:=Tryz.func222.trans (congrArg some (by kernel_rfl))
 f314:=Tryz.func242.trans (congrArg some (by kernel_rfl))
 t3:=Tryz.underlying3
 a3:=Tryz.isAgg3
 z3:=Tryz.sizeOf3
 v3:=Tryz.zeroValue3
 t4:=Tryz.underlying4
 a4:=Tryz.isAgg4
 z4:=Tryz.sizeOf4
 v4:=Tryz.zeroValue4
 t5:=Tryz.underlying5
 a5:=Tryz.isAgg5
 z5:=Tryz.sizeOf5
 v5:=Tryz.zeroValue5
 t9:=Tryz.underlying9
 a9:=Tryz.isAgg9
 z9:=Tryz.sizeOf9
 v9:=Tryz.zeroValue9
 t46:=Tryz.underlying244
 a46:=Tryz.isAgg244
 z46:=Tryz.sizeOf244
 v46:=Tryz.zeroValue244
 t51:=Tryz.underlying264
 a51:=Tryz.isAgg264
 z51:=Tryz.sizeOf264
 v51:=Tryz.zeroValue264
 t146:=Tryz.underlying338
 a146:=Tryz.isAgg338
 z146:=Tryz.sizeOf338
 v146:=Tryz.zeroValue338
 g1:=by kernel_rfl }
open Go.RowKit Go.Lib in
theorem Tryz.strings_Index_one(s:ByteArray)(c:UInt8)(w:World):
  Calls Tryz.prog 225 #[.string s,.string ⟨#[c]⟩] w fun e w'=>e=.returned (.int .i64 (Lib.indexByte s.data.toList c))∧w'=w:=Any.strings_Index_one Tryz.DP s c w
end Go.Proofs
