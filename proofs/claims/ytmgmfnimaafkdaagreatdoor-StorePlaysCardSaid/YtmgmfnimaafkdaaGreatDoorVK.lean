/- The reference's Need, and its log that has no records. -/
import Derived.Test.YtmgmfnimaafkdaaGreatDoorVKA
import Derived.Test.YtmgmfnimaafkdaaGreatDoorVKB
namespace Go.Proofs.YtmgmfnimaafkdaaGreatDoor
set_option maxRecDepth 100000
set_option maxHeartbeats 0
open Go.RowKit Go.Maps
open Tryz
abbrev Jw(k v n:Int)(sz b:Nat):Array Value:=#[.int .i64 k,.int .i64 v,.int .i64 n,.int .u16 sz,.int .u8 b]
def QU(sz b:Nat):List UInt8:=(List.range (sz%400)).map fun i=>UInt8.ofNat (b+i%3)
def Ve(L b i:Nat):List UInt8:=(List.range L).map fun j=>if j<i then UInt8.ofNat (b+j%3)else 0
theorem IL(L b i:Nat):(Ve L b i).length=L:=by simp[Ve]
theorem SG(L b:Nat):Ve L b 0=List.replicate L 0:=by
 unfold Ve;apply List.ext_getElem
 ·simp
 intro i h1 h2;simp
theorem NY(L b:Nat):Ve L b L=(List.range L).map fun i=>UInt8.ofNat (b+i%3):=by
 unfold Ve;apply List.ext_getElem
 ·simp
 intro i h1 h2;simp at h1;simp[h1]
theorem PC(L b i:Nat)(_:i<L):Ve L b (i+1)=(Ve L b i).set i (UInt8.ofNat (b+i%3)):=by
 unfold Ve;apply List.ext_getElem
 ·simp
 intro j h1 h2;simp at h1;rw[List.getElem_set];simp only[List.getElem_map,List.getElem_range];by_cases e:i=j
 ·subst e;simp
 rw[if_neg e];by_cases hj:j<i
 ·rw[if_pos (by omega),if_pos hj]
 rw[if_neg (by omega),if_neg hj]
section
attribute [local go_sem ↓] Yl
theorem Jq(k v n:Int)(sz b:Nat)(hsz:sz<65536)(w:World):
  Calls prog 38 #[.agg (Jw k v n sz b)] w fun e w'=>∃A c,e=.returned (.slice A (QU sz b).length c)∧Kb w' A (QU sz b)∧(QU sz b).length≤c∧Below w.heap.size w w':=by
 have HX:=Qa (Qh.new w 55 (Jw k v n sz b));have h:Qb (Below w.heap.size w (w.alloc (.cells (Jw k v n sz b) 55))):=bR.alloc nR _;obtain⟨L,hL⟩:=eX (sz%400);have a1:((sz:Int)%400)=(L:Int):=by omega
 have a2:L<400:=by rw[hL];exact Nat.mod_lt _ (by omega)
 have t:(QU sz b).length=L:=by simp[QU,hL]
 have y:Qb (QU sz b=Ve L b L):=by
  show QU sz b=Ve L b L;rw[NY,hL];rfl
 rw[t];clear hL t;go_enter func38,ntmps38;go_upto_region 1 with fail;generalize w.alloc (.cells (Jw k v n sz b) 55)=w1 at*
 have c3:w1.cell? ⟨w.heap.size,3,none⟩=some (.int .u16 sz):=HX.o.cell 3;have xl:=HX.o.lt;have m:=Yl (L:Int) (by omega) (by omega) w1;rw[Int.toNat_natCast]at m;go_upto_region 2 with fail;have x:=Qa (HX.o.alloc (.cells (JI L) 5));have z:Qb (Below w.heap.size w (w1.alloc (.cells (JI L) 5))):=h.o.alloc h.o.size _;have r:Qb (Qh (w1.alloc (.cells (JI L) 5)) w1.heap.size 5 ((Ve L b 0).map Ks).toArray):=by
  show Qh (w1.alloc (.cells (JI L) 5)) w1.heap.size 5 ((Ve L b 0).map Ks).toArray;rw[SG];exact Qh.new w1 5 _
 have p:w.heap.size≠w1.heap.size:=by omega
 have u:w.heap.size≤w1.heap.size:=by omega
 obtain⟨g,hg⟩:=eX w1.heap.size;rw[←hg]at r p u ⊢;clear m c3 xl HX h;generalize w1.alloc (.cells (JI L) 5)=w2 at*
 clear hg;go_wp2_with fail;go_loopw [12] (fun i wr=>∃j:Nat,j≤L∧i=.int .i64 j∧Qh wr g 5 ((Ve L b j).map Ks).toArray∧Qh wr w.heap.size 55 (Jw k v n sz b)∧Below w.heap.size w wr) (fun i _=>L-(intOf i).toNat)
 case atStart=>exact⟨0,Nat.zero_le _,rfl,r.o,x.o,z.o⟩
 obtain⟨j,hj,rfl,d,a,f⟩:=hrel;have l:=Qa d;have B:=Qa a;have s:=Qa f;have c3:wr.cell? ⟨w.heap.size,3,none⟩=some (.int .u16 sz):=a.cell 3;have c4:wr.cell? ⟨w.heap.size,4,none⟩=some (.int .u8 b):=a.cell 4;have xl:=a.lt;have gl:=d.lt;have fr:=d.free j;by_cases hjl:j<L
 ·have q:(j:Int)<L:=by omega
  have a0:wr.cell? ⟨g,j,none⟩=some (Ks ((Ve L b j)[j]'(by rw[IL];exact hjl))):=by
   rw[d.cell j];simp[IL,hjl]
  clear d a f;go_wp2_with fail;go_roundw
  case rel=>
   refine⟨j+1,by omega,by simp, ?_,B.o.Yq p _,Jo s.o u _⟩;have h1:=l.o.set j (.int .u8 (((b:Int)+(j:Int)%3)%256));rw[PC L b j hjl,List.map_set];have e:Ks (UInt8.ofNat (b+j%3))=.int .u8 (((b:Int)+(j:Int)%3)%256):=by
    unfold Ks;congr 1
   rw[e];simpa using h1
  case measure=>simp[intOf];omega
 obtain rfl:j=L:=by omega
 have q:¬(j:Int)<j:=by omega
 clear d a f;go_wp2_with fail;go_ret;rw[y.o];exact⟨some ⟨g,0,none⟩,j,rfl,Kb.Ja l.o,nR,s.o⟩
end
theorem Kn(v n:Int)(w:World):Calls prog 31 #[.agg #[.int .i64 v,.int .i64 n]] w fun e w'=>e=.returned (.agg #[.int .i64 v,.int .i64 n])∧Below w.heap.size w w':=by
 have a:Qb (Below w.heap.size w ((w.alloc (.cells #[.int .i64 v,.int .i64 n] 53)).alloc (.cells #[.int .i64 0,.int .i64 0] 73))):=(bR.alloc nR _).alloc (by simp) _;have HX:Qb (Qh ((w.alloc (.cells #[.int .i64 v,.int .i64 n] 53)).alloc (.cells #[.int .i64 0,.int .i64 0] 73)) w.heap.size 53 #[.int .i64 v,.int .i64 n]):=(Qh.new _ _ _).alloc _;have HG:Qb (Qh ((w.alloc (.cells #[.int .i64 v,.int .i64 n] 53)).alloc (.cells #[.int .i64 0,.int .i64 0] 73)) (w.heap.size+1) 73 #[.int .i64 0,.int .i64 0]):=Qh.Qz (by simp);have HI:Qb ((prog.info? 73).map (·.size)=some (#[.int .i64 v,.int .i64 n]:Array Value).size):=show(prog.info? 73).map (·.size)=some 2 from by kernel_rfl
 have H1:Qb ((#[.int .i64 v,.int .i64 n]:Array Value).all (·.oneCell')=true):=Qa (by simp[Value.oneCell']);go_enter func31,ntmps31;go_upto_region 1 with fail;generalize (w.alloc (.cells #[.int .i64 v,.int .i64 n] 53)).alloc (.cells #[.int .i64 0,.int .i64 0] 73)=w1 at*
 have c0:w1.cell? ⟨w.heap.size,0,none⟩=some (.int .i64 v):=HX.o.cell 0;have c1:w1.cell? ⟨w.heap.size,1,none⟩=some (.int .i64 n):=HX.o.cell 1;have xl:=HX.o.lt;go_wp2_with (refine wpList_store_row rfl 73 _ _ rfl (w.heap.size+1) #[.int .i64 v,.int .i64 n] rfl rfl 73 #[.int .i64 0,.int .i64 0] HG.o HI.o rfl H1.o ?_);refine bodyPost_ret (v:=.agg #[.int .i64 v,.int .i64 n]) (results_cell_row results31 _ _ (w.heap.size+1) 73 _ (0,0) _ rfl (Qp HG.o _) underlying73 rfl HI.o) rfl ?_;exact⟨rfl,a.o.trans (Qg (Qm _ _ _) a.o.size (gB (by omega)))⟩
/-! ### no store -/
variable {E Sb base lo:Nat} {m:KY} {s:QM} {ts:List (Qj × List UInt8)} {w:World}
theorem PA(h:QO w base Sb s m)(ha:JH s lo E ts)(hok:XA s)(hE:E+4<549755813888)(hK:s.d.waits.length≤824633720832)(hp:s.QA<1048575)
  (n:Qj)(b:List UInt8)(A:Option Addr)(c:Nat)(hby:Wp base w A b)(hc:b.length≤c):
  Calls prog 53 #[.pointer (some ⟨Sb,0,none⟩),QZ n,.slice A b.length c] w fun e w'=>e=.returned (.int .i64 (Q6 s n b).1)∧QO w' base Sb (Q6 s n b).2 m∧Qt base m m w w':=by
 by_cases hn:Qs n.1=false∨Qs n.2=false∨b.length<1∨1048576<b.length
 ·rw[ZD hn];exact MT h hn A c
 have r1:Qs n.1=true:=by cases hh:Qs n.1<;>simp_all
 have r2:Qs n.2=true:=by cases hh:Qs n.2<;>simp_all
 have b1:1≤b.length:=by omega
 have b2:b.length≤1048576:=by omega
 cases hg:QC s.Qc n with
 |some x=>
  rw[Yu r1 r2 b1 b2 hg];exact SN h r1 r2 b1 b2 hg A c
 |none=>
  rcases Fe ha hE hK hp r1 r2 b1 b2 hg with⟨e,he,hne⟩|⟨a,l,m1,mark,s1,nn,d1,hq,hmi⟩
  ·rw[YK r1 r2 b1 b2 hg he hne];exact Ny h hok r1 r2 b1 b2 hg he hne A c
  rw[hq.is];exact F3 h hok hq hmi A c hby hc
theorem NG(h:QO w base Sb s m)(ha:JH s lo E ts)(hok:XA s)(hE:E+4<549755813888)(hK:s.d.waits.length≤824633720832)(hp:s.QA<1048575)
  (v n:Int)(sz b:Nat)(hsz:sz<65536):
  Calls prog 20 #[.pointer (some ⟨Sb,0,none⟩),.agg (Jw 0 v n sz b)] w fun e w'=>e=.returned (.int .i64 (Q6 s (v,n) (QU sz b)).1)∧QO w' base Sb (Q6 s (v,n) (QU sz b)).2 m∧Qt base m m w w':=by
 obtain⟨q,hq⟩:=eX (Q6 s (v,n) (QU sz b));have HX:=Qa (Qh.new w 55 (Jw 0 v n sz b));have g:Qb (Below w.heap.size w (w.alloc (.cells (Jw 0 v n sz b) 55))):=bR.alloc nR _;have k:=Qa (fun wy=>Jq 0 v n sz b hsz wy);have p:=Qa (fun wy=>Kn v n wy);have B:=h.lt;have C:=Qa h
 have z:=Qa (show ∀wy A c,Below w.heap.size w wy→Kb wy A (QU sz b)→(QU sz b).length≤c→Calls prog 53 #[.pointer (some ⟨Sb,0,none⟩),.agg #[.int .i64 v,.int .i64 n],.slice A (QU sz b).length c] wy fun e w'=>e=.returned (.int .i64 q.1)∧QO w' base Sb q.2 m∧Qt base m m wy w' from fun wy A c hy hby hc=>by
  rw[hq];exact PA (h.below hy) ha hok hE hK hp (v,n) _ A c hby.D3 hc)
 rw[←hq];clear hq ha hok h;generalize QU sz b=bt at*
 go_enter func20,ntmps20;go_upto_region 1 with fail;generalize w.alloc (.cells (Jw 0 v n sz b) 55)=w1 at*
 have i:=g.o.size
 have t:=Qa (show ∀wy,Qh wy w.heap.size 55 (Jw 0 v n sz b)→wy.cell? ⟨w.heap.size,0,none⟩=some (.int .i64 0)∧wy.cell? ⟨w.heap.size,1,none⟩=some (.int .i64 v)∧wy.cell? ⟨w.heap.size,2,none⟩=some (.int .i64 n)∧wy.cell? ⟨w.heap.size,3,none⟩=some (.int .u16 sz)∧wy.cell? ⟨w.heap.size,4,none⟩=some (.int .u8 b) from fun wy hx=>
  ⟨hx.cell 0,hx.cell 1,hx.cell 2,hx.cell 3,hx.cell 4⟩)
 have SK:=Qa (show ∀wy,Below w1.heap.size w1 wy→wy.cell? ⟨w.heap.size,0,none⟩=some (.int .i64 0)∧wy.cell? ⟨w.heap.size,1,none⟩=some (.int .i64 v)∧wy.cell? ⟨w.heap.size,2,none⟩=some (.int .i64 n)∧wy.cell? ⟨w.heap.size,3,none⟩=some (.int .u16 sz)∧wy.cell? ⟨w.heap.size,4,none⟩=some (.int .u8 b) from fun wy hy=>
  t.o _ (HX.o.below hy HX.o.lt))
 have S0:=Qa (SK.o _ bR.drew);obtain⟨c0,c1,c2,c3,c4⟩:=SK.o _ bR;have xl:=HX.o.lt;go_upto_region 3 with fail;clear c0 c1 c2 c3 c4
 go_region_held3 (fun wy=>wy.cell? ⟨w.heap.size,0,none⟩=some (.int .i64 0)∧wy.cell? ⟨w.heap.size,1,none⟩=some (.int .i64 v)∧wy.cell? ⟨w.heap.size,2,none⟩=some (.int .i64 n)∧wy.cell? ⟨w.heap.size,3,none⟩=some (.int .u16 sz)∧wy.cell? ⟨w.heap.size,4,none⟩=some (.int .u8 b))
  (first|exact S5.o|exact SK.o _ a.o|exact SK.o _ f.o|exact S0.o)
  (first
   |((fail_if_success (have:=f));go_at_call 31;refine(p.o _).mono ?_;rintro en w3 ⟨rfl,hb⟩;(have f:Qb (Below w1.heap.size w1 w3):=bR.drew.trans hb);clear hb)
   |((fail_if_success (have:=f));go_at_call 38;refine(k.o _).mono ?_;rintro en w3 ⟨A,c,rfl,hy,hc,hb⟩;(have f:Qb (Below w1.heap.size w1 w3):=bR.drew.trans hb);(have y:=Qa hy);(have HC:=Qa hc);clear hb hy hc)
   |((fail_if_success (have:=a));go_at_call 31;refine(p.o _).mono ?_;rintro en w4 ⟨rfl,hb⟩;(have a:Qb (Below w1.heap.size w1 w4):=f.o.trans (hb.mono f.o.size));(have r:=Qa (y.o.below hb));clear hb)
   |((fail_if_success (have:=a));go_at_call 38;refine(k.o _).mono ?_;rintro en w4 ⟨A,c,rfl,hy,hc,hb⟩;(have a:Qb (Below w1.heap.size w1 w4):=f.o.trans (hb.mono f.o.size));(have r:=Qa hy);(have HC:=Qa hc);clear hb hy hc)
   |(go_at_call 53;refine(z.o _ _ _ (g.o.trans (a.o.mono i)) r.o HC.o).mono ?_;rintro en w5 ⟨rfl,l,j⟩;(have S5:=Qa (t.o _ (j.blk (C.o.below (g.o.trans (a.o.mono i))) (HX.o.below a.o HX.o.lt) (by decide) (by decide))));(have x:=Qa l);(have u:=Qa ((Qt.Qe (m:=m) (g.o.trans (a.o.mono i)) B).trans j));clear l j))
 all_goals
  go_wp2_with fail;go_ret;exact⟨rfl,x.o,u.o⟩
variable {k n:Nat}
theorem MR(hs:KJ n k=true)(hn:n≤65536):∃d1 l1 sl mp d2 l2,YN (JA n k) d1 l1 sl mp d2 l2∧JH (KI (JA n k) d1 l1 sl mp d2 l2) (n/4) 2 []∧(KI (JA n k) d1 l1 sl mp d2 l2).Qc=[]∧(KI (JA n k) d1 l1 sl mp d2 l2).notes=[]∧(KI (JA n k) d1 l1 sl mp d2 l2).marks=[]∧d2.waits.length≤8589934592∧Q2 (KG 2) 8589934592 (JA n k) (KI (JA n k) d1 l1 sl mp d2 l2).d∧(KI (JA n k) d1 l1 sl mp d2 l2).QA=0:=by
 obtain⟨d1,d,e1,e2,L1,L,h⟩:=ZQ hs;obtain⟨d',s',f1,f2,f3,f4,f5,f6,f7⟩:=TU hs hn;have hl:(JA n k).Qk.length=n:=by simp[JA]
 have hz:(JA n k).size=k:=rfl;have r1:=RI (E:=1) (Ui n k 1) (by rw[hl];exact hn) (by omega) (by omega) e1;have f:=r1.like.2;have b:(JA n k).waits.length=0:=by simp[JA]
 rw[b]at f;rw[h]at f1;injection f1 with _ f1;injection f1 with f1 f8;injection f8 with f8;have a2:=hs;unfold KJ at hs;simp only[Bool.not_eq_true',Bool.or_eq_false_iff,decide_eq_false_iff_not,beq_eq_false_iff_ne]at hs;obtain⟨⟨⟨hq,c⟩,a1⟩,a0⟩:=hs;obtain⟨g1,g2⟩:=ZH c;have g:YN (JA n k) d1 ⟨0,n/4/2,k,0,1,1,[]⟩ [] ⟨n/4,n-n/4,if 0<n-n/4 then[(n/4,n-n/4)]else[]⟩ d ⟨0,n/4/2,k,1,2,n/4/2+1,[]⟩:=by
  refine⟨by rw[hl];omega,by rw[hz];exact c,by rw[hz,hl];omega,by rw[hz];exact g1,⟨1,by omega,Ui n k 1⟩,by rw[b];omega,by rw[hl];exact e1,fun r hr=>(by cases hr),by simp,fun h=>absurd rfl h,fun h=>absurd rfl h,L1.1,L1.2.1,by omega,by show k=d1.size;rw[L1.1,hz],by show 1+1<_;omega, ?_, ?_⟩
  ·rw[hl];rfl
  rw[hl];exact e2
 have a:KI (JA n k) d1 ⟨0,n/4/2,k,0,1,1,[]⟩ [] ⟨n/4,n-n/4,if 0<n-n/4 then[(n/4,n-n/4)]else[]⟩ d ⟨0,n/4/2,k,1,2,n/4/2+1,[]⟩=s':=by
  rw[←f8];unfold KI;rw[hl];rfl
 have e:=f4.like.2;rw[b,←f1]at e;exact⟨d1,_,[],_,d,_,g,by rw[a];exact f3,by rw[a];exact f5,by rw[a];exact f6,by rw[a];exact f7,by omega,by rw[a,f2];exact f4,rfl⟩
variable {base':Nat}
theorem XX.up(h:XX base w)(hb:base≤base'):XX base' w:=fun w' hw=>h w' (hw.mono hb)
structure OH where
 k:Int
 v:Int
 n:Int
 sz:Nat
 b:Nat
def OH.cells(a:OH):List Value:=[.int .i64 a.k,.int .i64 a.v,.int .i64 a.n,.int .u16 a.sz,.int .u8 a.b]
theorem OH.Oq(a:OH):a.cells.length=5:=rfl
theorem Ur{α:Type}(f:α→List Value)(k:Nat)(hf:∀a,(f a).length=k)(l:List α):(l.flatMap f).length=l.length*k:=by
 induction l with
 |nil=>simp
 |cons a l ih=>simp[List.flatMap_cons,ih,hf,Nat.succ_mul];omega
theorem Na{α:Type}(f:α→List Value)(k:Nat)(hf:∀a,(f a).length=k)(l:List α)(i j:Nat)(hi:i<l.length)(hj:j<k):(l.flatMap f)[i*k+j]? =(f l[i])[j]? :=by
 induction l generalizing i with
 |nil=>simp at hi
 |cons a l ih=>
  rw[List.flatMap_cons];cases i with
  |zero=>simp only[Nat.zero_mul,Nat.zero_add,List.getElem_cons_zero];rw[List.getElem?_append_left (by rw[hf];exact hj)]
  |succ i=>
   rw[List.getElem?_append_right (by rw[hf,Nat.succ_mul];omega),hf,show(i+1)*k+j-k=i*k+j by rw[Nat.succ_mul];omega];simp only[List.getElem_cons_succ];exact ih i (by simpa using hi)
variable {A:Option Addr} {B:Nat}
theorem V1{α:Type}{f:α→List Value}(hf:∀a,(f a).length=k)(hk:0<k){l:List α}(h:Rd w B k A n (l.flatMap f)):
  l.length=n∧∀i (hi:i<l.length),∃b o,A=some ⟨b,o,none⟩∧b<B∧w.rangeAt b (o+i*k) (f l[i]):=by
 have hl:l.length=n:=by
  have:=h.1;rw[Ur f k hf]at this;exact Nat.eq_of_mul_eq_mul_right hk this
 refine⟨hl,fun i hi=> ?_⟩;obtain⟨b,o,rfl,hb,hc⟩:=h.2 (by omega);refine⟨b,o,rfl,hb,fun j v hv=> ?_⟩;obtain⟨hj,_⟩:=List.getElem?_eq_some_iff.1 hv;rw[hf]at hj;have hg:=Na f k hf l i j hi hj;have c:i*k+j<(l.flatMap f).length:=by
  rw[Ur f k hf];have:(i+1)*k≤l.length*k:=Nat.mul_le_mul_right _ hi;rw[Nat.succ_mul]at this;omega
 have:=hc (i*k+j) c;rw[←Nat.add_assoc]at this;rw[this,←hv,←hg,List.getElem?_eq_getElem c]
theorem FN:(prog.info? 55).map (·.size)=some 5:=by kernel_rfl
section
open Go.Shelf Go.Sort
theorem PE:(prog.info? 247).map (fun i=>(i.zero,i.size,i.bytes))=some (some (.agg #[.int .u8 0,.slice none 0 0]),2,32):=by kernel_rfl
theorem XM:prog.underlying 34=some (.slice 247):=by kernel_rfl
theorem YL:(prog.info? 67).map (·.size)=some 2:=by kernel_rfl
theorem Vp:(prog.info? 69).map (·.size)=some 5:=by kernel_rfl
structure V4 where
 n:Qj
 b:List UInt8
 at':Nat
 mark:Nat
def JG(x:Int × List UInt8):List Value:=[.int .i64 x.1,Qw x.2]
def JJ(x:V4):List Value:=[.int .i64 x.n.1,.int .i64 x.n.2,Qw x.b,.int .i64 x.at',.int .i64 x.mark]
def Xs(x:V4):QN:=(83,Qi [x.n.1,x.n.2,x.at',x.b.length,x.mark])
structure QH where
 size:Nat
 notes:List (Int × List UInt8)
 Qc:List V4
 marks:List (List UInt8)
 Qo:List QN
 half:Nat
 ep:Nat
 VB:Nat
 QA:Nat
def Q3(r:QH):List QN:=r.notes.map VZ++r.Qc.map Xs++r.marks.map fun m=>(77,m)
structure JM where
 AN:Option Addr
 cN:Nat
 AS:Option Addr
 cS:Nat
 AM:Option Addr
 cM:Nat
 AL:Option Addr
 cL:Nat
 L:List Kx
 Qk:Int
 M:Nat
abbrev J1(r:QH)(m:JM):Array Value:=#[.slice m.AL r.Qo.length m.cL,.int .i64 m.Qk,.int .i64 r.half,.int .i64 r.size,.int .i64 r.ep]
abbrev Qr(r:QH)(m:JM):Array Value:=#[.int .i64 r.size,.slice m.AN r.notes.length m.cN,.slice m.AS r.Qc.length m.cS,.slice m.AM r.marks.length m.cM,.slice m.AL r.Qo.length m.cL,.int .i64 m.Qk,.int .i64 r.half,.int .i64 r.size,.int .i64 r.ep,.pointer (some ⟨m.M,0,none⟩),.int .i64 r.VB,.int .i64 r.QA]
structure JN (w:World) (r:QH) (m:JM):Prop where
 notes:Sl w 67 2 m.AN r.notes.length (r.notes.flatMap JG)
 Qc:Sl w 69 5 m.AS r.Qc.length (r.Qc.flatMap JJ)
 marks:Sl w 9 1 m.AM r.marks.length (r.marks.map Qw)
 Qo:m.L.map (·.1)=r.Qo
 row:Sl w 247 2 m.AL r.Qo.length (QI m.L)
 OM:Yj w m.L
 Tk:r.marks.length≤m.cM
variable {r:QH} {w':World}
theorem JN.keeps{ts:List TypeId}{m:JM}(h:JN w r m)(k:Qd base ts w w')(ht:∀t∈([67,69,9,247,5]:List TypeId),t∉ts):JN w' r m:=
 ⟨h.notes.keeps k (ht _ (by decide)),h.Qc.keeps k (ht _ (by decide)),h.marks.keeps k (ht _ (by decide)),h.Qo,h.row.keeps k (ht _ (by decide)),h.OM.keeps k (ht _ (by decide)),h.Tk⟩
theorem JN.below{m:JM}(h:JN w r m)(k:Below w.heap.size w w'):JN w' r m:=h.keeps (ts:=[]) (Qd.Qe (base:=0) k (Nat.zero_le _)) (by simp)
structure DT (x:V4):Prop where
 v:Qs x.n.1=true
 n:Qs x.n.2=true
 b:x.b.length≤1048576
 a:x.at'≤4194304
 m:x.mark<9223372036854775808
structure Ya (r:QH):Prop where
 notes:∀x∈r.notes,Qs x.1=true∧x.2.length≤3000
 Qc:∀x∈r.Qc,DT x
 marks:∀x∈r.marks,x.length≤3000
 nN:r.notes.length≤100001
 nS:r.Qc.length≤100001
 nM:r.marks.length≤100001
theorem VE{v:Int}(h:Qs v=true):∃k:Nat,v=k∧k≤1099511627776:=by
 unfold Qs at h;simp only[Bool.and_eq_true,decide_eq_true_eq]at h;exact⟨v.toNat,by omega,by omega⟩
structure Yy (w wr:World) (rs:List QN) (j:Nat) (L:List Kx) (out:Value):Prop where
 rcs:L.map (·.1)=rs.take j
 len:L.length=j
 own:wr.ownsRow w.heap.size 247 2 out j (QI L)
 OM:Yj wr L
 below:Below w.heap.size w wr
theorem Yy.start(w:World)(rs:List QN):Yy w w rs 0 [] (.slice none 0 0):=⟨rfl,rfl,World.ownsRow_nil _ _ _ _,(fun x hx=>by cases hx),bR⟩
variable {j:Nat} {out:Value} {rs:List QN} {wr:World}
theorem Yy.keep{L:List Kx}(h:Yy w wr rs j L out)(hb:Below wr.heap.size wr w'):Yy w w' rs j L out:=
 ⟨h.rcs,h.len,QF h.own (ts:=[]) (Qd.Qe (base:=0) hb (Nat.zero_le _)) (by simp),h.OM.below hb,h.below.trans (hb.mono h.below.size)⟩
variable {A2:Option Addr} {bs:List UInt8} {c c2 kd:Nat} {w3 w4:World}
theorem Yy.push{L:List Kx}(h:Yy w wr rs j L out)(hj:rs[j]? =some (kd,bs))(hb:Below wr.heap.size wr w3)(hby:Kb w3 A bs)(hc:bs.length≤c)(hk:kd<256)(hbl:bs.length<1099511627776)
  (hown:w4.ownsRow w.heap.size 247 2 (.slice A2 (j+1) c2) (j+1) (QI L++[.int .u8 kd,.slice A bs.length c]))(hgr:w3.grownBy w4 out.ownBlock):Yy w w4 rs (j+1) (L++[((kd,bs),A,c)]) (.slice A2 (j+1) c2):=by
 have h3:=h.keep hb;have a:Qd w.heap.size [247] w3 w4:=Q7 h3.own hgr (by have:=h3.below.size;omega);obtain⟨d,b⟩:=List.getElem?_eq_some_iff.1 hj;refine⟨?_,by rw[List.length_append,h.len];rfl, ?_, ?_,h3.below.trans a.below⟩
 ·rw[List.map_append,h.rcs,List.take_succ_eq_append_getElem d,b];rfl
 ·rw[KU];exact hown
 intro z hz;rcases List.mem_append.1 hz with hz|hz
 ·exact(h3.OM.keeps a (by decide)) z hz
 rw[List.mem_singleton]at hz;subst hz;exact⟨hby.keeps a (by decide),hc,hk,hbl⟩
theorem Oh(a:Int):Qi [a]=Lib.itoa a:=by
 unfold Qi;simp[Lib.join]
theorem PJ{m:JM}(h:JN w r m)(ok:Ya r):
  Calls prog 128 #[.agg (Qr r m)] w fun e w'=>∃L A c,e=.returned (.slice A (Q3 r).length c)∧Yy w w' (Q3 r) (Q3 r).length L (.slice A (Q3 r).length c):=by
 have HH:=Qa h;have HK:=Qa ok;obtain⟨i0,aa,ag,aj,ai⟩:=info_parts PE;have HX:=Qa (Qh.new w 39 (Qr r m));have aG:Qb (Below w.heap.size w (w.alloc (.cells (Qr r m) 39))):=bR.alloc nR _;obtain⟨rs,a3⟩:=eX (Q3 r);have a9:Qb (rs=r.notes.map VZ++r.Qc.map Xs++r.marks.map (fun m=>(77,m))):=Qa a3;rw[←a3];have an:rs.length=r.notes.length+r.Qc.length+r.marks.length:=by
  rw[a3];unfold Q3;simp;omega
 obtain⟨nN,a1⟩:=eX r.notes.length;obtain⟨nS,ak⟩:=eX r.Qc.length;obtain⟨nM,ae⟩:=eX r.marks.length;have aS:nN≤100001:=by rw[a1];exact ok.nN
 have aQ:nS≤100001:=by rw[ak];exact ok.nS
 have aO:nM≤100001:=by rw[ae];exact ok.nM
 have N1:=Qa (V1 (f:=JG) (k:=2) (fun _=>rfl) (by decide) h.notes.1).2;have S1:=Qa (V1 (f:=JJ) (k:=5) (fun _=>rfl) (by decide) h.Qc.1).2;have X:=Qa a1;have Z:=Qa ak;have ah:=Qa ae;have ay:=Qa an;have aE:(w.alloc (.cells (Qr r m) 39)).cell? ⟨w.heap.size,1,none⟩=some (.slice m.AN nN m.cN):=by rw[a1];exact HX.o.cell 1
 have xl:=HX.o.lt
 have a2:=Qa (show ∀wy,Qd w.heap.size [247] (w.alloc (.cells (Qr r m) 39)) wy→wy.cell? ⟨w.heap.size,2,none⟩=some (.slice m.AS nS m.cS)∧wy.cell? ⟨w.heap.size,3,none⟩=some (.slice m.AM nM m.cM)∧w.heap.size<wy.heap.size from fun wy hy=>by
  have hx:=HX.o.keeps hy (by decide);exact⟨by rw[Z.o];exact hx.cell 2,by rw[ah.o];exact hx.cell 3,hx.lt⟩)
 clear h ok a3 a1 ak ae an;generalize Qr r m=ra at*
 go_enter func128,ntmps128;go_wp2_with fail;generalize w.alloc (.cells ra 39)=w1 at*
 go_loopw [3,13] (fun out i wr=>∃(k:Nat)(L:List Kx),k≤nN∧i=.int .i64 (k:Nat)∧Yy w wr rs k L out∧Qd w.heap.size [247] w1 wr) (fun _ i _=>nN-(intOf i).toNat)
 case atStart=>exact⟨0,[],Nat.zero_le _,rfl,(Yy.start w rs).keep aG.o,Qd.refl _ _ _⟩
 obtain⟨k,L,hk,rfl,hR,a6⟩:=hrel;have HR:=Qa hR;have d:=Qa a6;have I:=hR.below.size;clear hR a6 aE xl;by_cases hkl:k<nN
 ·have ap:(k:Int)<nN:=by omega
  have aT:(0:Int)≤k:=by omega
  have a0:k<r.notes.length:=by rw[←X.o];exact hkl
  obtain⟨b,o,hA,E,G⟩:=N1.o k a0;have S:=HK.o.notes _ (List.getElem_mem a0);have q:rs[k]? =some (VZ r.notes[k]):=by
   rw[a9.o,List.append_assoc,List.getElem?_append_left (by simpa using a0)];simp[a0]
  rw[hA];generalize r.notes[k]=x at*
  obtain⟨v,t⟩:=x;simp only at S q;unfold VZ at q;simp only at q;obtain⟨vn,rfl,aA⟩:=VE S.1;obtain⟨z0,q0⟩:∃z0:ByteArray,Qw (Lib.itoa (vn:Int))=.string z0:=⟨_,rfl⟩;obtain⟨tb,qt⟩:∃tb:ByteArray,Qw t=.string tb:=⟨_,rfl⟩;obtain⟨z1,q1⟩:∃z1:ByteArray,z0++⟨#[32]⟩=z1:=⟨_,rfl⟩;obtain⟨z2,q2⟩:∃z2:ByteArray,z1++tb=z2:=⟨_,rfl⟩;have R:z0=⟨(Lib.itoa (vn:Int)).toArray⟩:=by unfold Qw at q0;injection q0 with q0;exact q0.symm
  have K:tb=⟨t.toArray⟩:=by unfold Qw at qt;injection qt with qt;exact qt.symm
  have a4:Value.string z2=Qw (Qi [(vn:Int)]++32::t):=by
   rw[←q2,←q1,R,K,Oh];unfold Qw;congr 1;apply ByteArray.ext;simp
  have s0:z0.size≤21:=by
   have:=Ke (n:=(vn:Int)) (by omega) (by omega);rw[R];exact this
  have st:tb.size≤3000:=by rw[K];simpa [ByteArray.size]using S.2
  have s1:z1.size=z0.size+1:=by rw[←q1,ByteArray.size_append];rfl
  have b1:¬(9223372036854775807<z0.size+1):=by omega
  have b2:¬(9223372036854775807<z1.size+tb.size):=by omega
  have aC:=Qa (show ∀wy,Calls prog 144 #[.int .i64 vn] wy fun e w'=>e=.returned (.string z0)∧Below wy.heap.size wy w' from fun wy=>by
   rw[←q0];exact J5 vn wy (by omega))
  have ab:=Qa (show ∀wy,Calls prog 143 #[.int .u8 78,.string z2] wy fun e w'=>Kz wy w' (78,Qi [(vn:Int)]++32::t) e from fun wy=>by
   rw[a4];exact Vb 78 _)
  have af:=Qa q;have W:(Qi [(vn:Int)]).length≤21:=by
   rw[Oh];have:=Ke (n:=(vn:Int)) (by omega) (by omega);unfold ZY at this;simpa [ByteArray.size]using this
  have a7:Qb ((Qi [(vn:Int)]++32::t).length<1099511627776):=by
   show(Qi [(vn:Int)]++32::t).length<1099511627776;have:=S.2;simp only[List.length_append,List.length_cons];omega
  have N:Qb (wr.rangeAt b (o+k*2) [.int .i64 vn,.string tb]):=Qa (by
   rw[←qt];exact fun i v hv=>(HR.o.below.cell (p:=⟨b,o+k*2+i,none⟩) E).trans (G i v hv))
  have J:Qb ((prog.info? 67).map (·.size)=some ([.int .i64 vn,.string tb]:List Value).length):=YL;have HI:Qb ((prog.info? 67).map (·.size)=some (#[.int .i64 vn,.string tb]:Array Value).size):=YL;clear q R K a4 q0 qt S W s0 st s1 G E;generalize Qi [(vn:Int)]++32::t=bs at*
  obtain⟨O,cO,rfl,av⟩:=Jg HR.o.own
  go_upto_region 5 with first
   |(refine wpList_load_mid rfl 67 _ rfl b (o+k*2) rfl [.int .i64 vn,.string tb] _ N.o underlying67 rfl J.o ?_)
   |(refine wpList_store_row rfl 67 _ _ rfl wr.heap.size #[.int .i64 vn,.string tb] rfl rfl 67 _ (Qh.new wr 67 _) HI.o rfl (by simp[Value.oneCell']) ?_;rw[World.setRow_alloc_new])
  try go_frame
  have H:=Qa (HR.o.keep (bR.alloc nR (.cells #[.int .i64 vn,.string tb] 67)));have Q:=Qa (d.o.trans (Qd.Qe (base:=w.heap.size) (ts:=[247]) (bR.alloc nR (.cells #[.int .i64 vn,.string tb] 67)) I));have HZ:=Qa (Qh.new wr 67 #[.int .i64 vn,.string tb]);clear N J HI HR d;generalize wr.alloc (.cells #[.int .i64 vn,.string tb] 67)=wz at*
  generalize wr.heap.size=g at*
  have s:=H.o.below.size;have zl:=HZ.o.lt
  have SK:=Qa (show ∀wy,Qd w.heap.size [247] wz wy→wy.cell? ⟨g,0,none⟩=some (.int .i64 vn)∧wy.cell? ⟨g,1,none⟩=some (.string tb) from fun wy hy=>by
   have hx:=HZ.o.keeps hy (by decide);exact⟨hx.cell 0,hx.cell 1⟩)
  have S0:=Qa (SK.o _ (Qd.Qe bR.drew s))
  go_region_held3 (fun wy=>wy.cell? ⟨g,0,none⟩=some (.int .i64 vn)∧wy.cell? ⟨g,1,none⟩=some (.string tb))
   (first|exact SK.o _ V.o|exact SK.o _ (Qd.Qe (a.o.alloc a.o.size _) s)|exact SK.o _ (Qd.Qe a.o s)|exact SK.o _ (Qd.Qe al.o s)|exact S0.o)
   (first
    |(go_at_call 144;refine(aC.o _).mono ?_;rintro en w2 ⟨rfl,aw⟩;(have al:Qb (Below wz.heap.size wz w2):=bR.drew.trans aw);clear aw)
    |(go_at_call 143;refine(ab.o _).mono ?_;rintro en w3 ⟨⟨A3,c3,rfl,D,B⟩,z⟩;(have P:=Qa D);(have M:=Qa B);(have a:Qb (Below wz.heap.size wz w3):=al.o.trans (z.mono al.o.size));(have ar:w.heap.size≤w3.heap.size:=Nat.le_trans s a.o.size);(have F:=Qa (Qu ((H.o.keep a.o).own) (.cells #[.int .u8 78,.slice A3 bs.length c3] 247)));(have U:=Qa (Kq (Sl.Ja (sz:=2) (n:=1) (Qh.new w3 247 [.int .u8 78,.slice A3 bs.length c3].toArray) rfl)));(have T:=Qa (show ∀u∈([.int .u8 78,.slice A3 bs.length c3]:List Value),u.oneCell'=true from by simp[Value.oneCell']));clear D z B)
    |(refine Q9 _ (by rfl) _ _ _ (by rfl) w.heap.size 247 i0 _ 2 32 XM aa ag aj ai rfl (by decide) (.slice O k cO) k (QI L) (by rfl) F.o (some ⟨w3.heap.size,0,none⟩) 1 1 _ [.int .u8 78,.slice A3 bs.length c3] (by rfl) U.o T.o (by unfold maxLen;omega) (by omega) (by simp;omega) ?_;intro A4 c4 w4 hown4 hgr4 hnc4;(have l:=Qa hown4);(have C:=Qa hgr4);(have V:Qb (Qd w.heap.size [247] wz w4):=(Qd.Qe (a.o.alloc a.o.size _) s).trans (Q7 F.o hgr4 (by simp;omega)));clear hown4 hgr4))
  all_goals
   go_wp2_with fail;go_roundw
   case rel=>exact⟨k+1,_,by omega,by simp,H.o.push af.o (a.o.alloc a.o.size _) (P.o.below (bR.alloc nR _)) M.o (by decide) a7.o l.o C.o,Q.o.trans V.o⟩
   case measure=>simp[intOf];omega
 have aD:k=nN:=by omega
 subst aD;have ap:¬(k:Int)<k:=by omega
 have az:wr.cell? ⟨w.heap.size,2,none⟩=some (.slice m.AS nS m.cS):=(a2.o _ d.o).1;have ac:=(a2.o _ d.o).2.2;go_wp2_with fail;go_loopw [3,32] (fun out i w5=>∃(j:Nat)(L2:List Kx),j≤nS∧i=.int .i64 (j:Nat)∧Yy w w5 rs (k+j) L2 out∧Qd w.heap.size [247] w1 w5) (fun _ i _=>nS-(intOf i).toNat)
 case atStart=>exact⟨0,L,Nat.zero_le _,rfl,HR.o,d.o⟩
 clear HR d I az ac;obtain⟨j,L2,hj,rfl,hR,a5⟩:=hrel;have HR:=Qa hR;have d:=Qa a5;have I:=hR.below.size;clear hR a5;by_cases hjl:j<nS
 ·have au:(j:Int)<nS:=by omega
  have aM:(0:Int)≤j:=by omega
  have Y:j<r.Qc.length:=by rw[←Z.o];exact hjl
  obtain⟨b,o,hA,E,G⟩:=S1.o j Y;have ax:=HK.o.Qc _ (List.getElem_mem Y);have q:rs[k+j]? =some (Xs r.Qc[j]):=by
   have ad:(r.notes.map VZ).length=k:=by rw[List.length_map];exact X.o.symm
   rw[a9.o,List.append_assoc,List.getElem?_append_right (by omega),ad,Nat.add_sub_cancel_left,List.getElem?_append_left (by simpa using Y)];simp[Y]
  rw[hA];generalize r.Qc[j]=x at*
  obtain⟨⟨v,nn⟩,t,at',mk⟩:=x;obtain⟨hv,hn,hb,ha,hm⟩:=ax;simp only at hv hn hb ha hm;obtain⟨vn,rfl,aA⟩:=VE hv;obtain⟨no,rfl,aU⟩:=VE hn;unfold Xs at q;simp only at q;unfold JJ at G;simp only at G;have aF:=Qa (show ∀wy,Calls prog 140 #[.agg #[.int .i64 vn,.int .i64 no,Qw t,.int .i64 at',.int .i64 mk]] wy fun e w'=>Kz wy w' (83,Qi [(vn:Int),no,at',t.length,mk]) e from fun wy=>IZ vn no at' mk t (by omega) (by omega) (by omega) hm (by omega));have aq:∀y∈[(vn:Int),no,at',t.length,mk],-9223372036854775808≤y∧y≤9223372036854775807:=by
   intro y hy;simp only[List.mem_cons,List.not_mem_nil,or_false]at hy;rcases hy with rfl|rfl|rfl|rfl|rfl<;>omega
  have W:=KX _ aq;have a7:Qb ((Qi [(vn:Int),no,at',t.length,mk]).length<1099511627776):=by
   show(Qi [(vn:Int),no,at',t.length,mk]).length<1099511627776;simp only[List.length_cons,List.length_nil]at W;omega
  have af:=Qa q;have N:Qb (wr.rangeAt b (o+j*5) [.int .i64 vn,.int .i64 no,Qw t,.int .i64 at',.int .i64 mk]):=Qa (fun i v hv=>(HR.o.below.cell (p:=⟨b,o+j*5+i,none⟩) E).trans (G i v hv));clear q W aq G E hv hn hb ha hm;generalize Qi [(vn:Int),no,at',t.length,mk]=bs at*
  unfold Qw at*
  generalize (⟨t.toArray⟩:ByteArray)=tb at*
  have J:Qb ((prog.info? 69).map (·.size)=some ([.int .i64 vn,.int .i64 no,.string tb,.int .i64 at',.int .i64 mk]:List Value).length):=Vp;have HI:Qb ((prog.info? 69).map (·.size)=some (#[.int .i64 vn,.int .i64 no,.string tb,.int .i64 at',.int .i64 mk]:Array Value).size):=Vp;obtain⟨O,cO,rfl,av⟩:=Jg HR.o.own
  go_upto_region 10 with first
   |(refine wpList_load_mid rfl 69 _ rfl b (o+j*5) rfl [.int .i64 vn,.int .i64 no,.string tb,.int .i64 at',.int .i64 mk] _ N.o underlying69 rfl J.o ?_)
   |(refine wpList_store_row rfl 69 _ _ rfl wr.heap.size #[.int .i64 vn,.int .i64 no,.string tb,.int .i64 at',.int .i64 mk] rfl rfl 69 _ (Qh.new wr 69 _) HI.o rfl (by simp[Value.oneCell']) ?_;rw[World.setRow_alloc_new])
  try go_frame
  have H:=Qa (HR.o.keep (bR.alloc nR (.cells #[.int .i64 vn,.int .i64 no,.string tb,.int .i64 at',.int .i64 mk] 69)));have Q:=Qa (d.o.trans (Qd.Qe (base:=w.heap.size) (ts:=[247]) (bR.alloc nR (.cells #[.int .i64 vn,.int .i64 no,.string tb,.int .i64 at',.int .i64 mk] 69)) I));have HZ:=Qa (Qh.new wr 69 #[.int .i64 vn,.int .i64 no,.string tb,.int .i64 at',.int .i64 mk]);clear N J HR d;generalize wr.alloc (.cells #[.int .i64 vn,.int .i64 no,.string tb,.int .i64 at',.int .i64 mk] 69)=wz at*
  generalize wr.heap.size=g at*
  have s:=H.o.below.size;have zl:=HZ.o.lt
  go_wp2_with (first
   |(refine wpList_load_row rfl 69 _ rfl g rfl 69 #[.int .i64 vn,.int .i64 no,.string tb,.int .i64 at',.int .i64 mk] (0,0) _ HZ.o underlying69 rfl HI.o ?_)
   |(go_at_call 140;refine(aF.o _).mono ?_;rintro en w3 ⟨⟨A3,c3,rfl,D,B⟩,z⟩;(have P:=Qa D);(have M:=Qa B);(have a:=Qa z);(have ar:w.heap.size≤w3.heap.size:=Nat.le_trans s a.o.size);(have F:=Qa (Qu ((H.o.keep a.o).own) (.cells #[.int .u8 83,.slice A3 bs.length c3] 247)));(have U:=Qa (Kq (Sl.Ja (sz:=2) (n:=1) (Qh.new w3 247 [.int .u8 83,.slice A3 bs.length c3].toArray) rfl)));(have T:=Qa (show ∀u∈([.int .u8 83,.slice A3 bs.length c3]:List Value),u.oneCell'=true from by simp[Value.oneCell']));clear D z B)
   |(at_builtin;refine Qv _ rfl _ _ 34 rfl w.heap.size 247 i0 _ 2 32 XM aa ag aj ai rfl (by decide) (.slice O (k+j) cO) (k+j) (QI L2) rfl F.o (some ⟨w3.heap.size,0,none⟩) 1 1 _ [.int .u8 83,.slice A3 bs.length c3] rfl U.o T.o (by unfold maxLen;omega) (by omega) (by simp;omega) ?_;intro A4 c4 w4 hown4 hgr4 hnc4 _;(have l:=Qa hown4);(have C:=Qa hgr4);(have V:Qb (Qd w.heap.size [247] wz w4):=(Qd.Qe (a.o.alloc a.o.size _) s).trans (Q7 F.o hgr4 (by simp;omega)));clear hown4 hgr4))
  go_roundw
  case rel=>exact⟨j+1,_,by omega,by simp,H.o.push af.o (a.o.alloc a.o.size _) (P.o.below (bR.alloc nR _)) M.o (by decide) a7.o l.o C.o,Q.o.trans V.o⟩
  case measure=>simp[intOf];omega
 have aJ:j=nS:=by omega
 subst aJ;have au:¬(j:Int)<j:=by omega
 have aB:wr.cell? ⟨w.heap.size,3,none⟩=some (.slice m.AM nM m.cM):=(a2.o _ d.o).2.1;have ac:=(a2.o _ d.o).2.2;have aI:=Qa HH.o.marks.1;go_wp2_with fail;go_loopw [3,45] (fun out i w6=>∃(i3:Nat)(L3:List Kx),i3≤nM∧i=.int .i64 (i3:Nat)∧Yy w w6 rs (k+j+i3) L3 out) (fun _ i _=>nM-(intOf i).toNat)
 case atStart=>exact⟨0,L2,Nat.zero_le _,rfl,HR.o⟩
 clear HR d I aB ac;obtain⟨i3,L3,aR,rfl,hR⟩:=hrel;have HR:=Qa hR;have I:=hR.below.size;clear hR;obtain⟨O,cO,rfl,av⟩:=Jg HR.o.own;by_cases hil:i3<nM
 ·have ao:(i3:Int)<nM:=by omega
  have aL:(0:Int)≤i3:=by omega
  have a8:i3<r.marks.length:=by rw[←ah.o];exact hil
  obtain⟨b,o,hA,E,hc⟩:=aI.o.2 (by omega);have aN:wr.cell? ⟨b,o+i3,none⟩=some (Qw r.marks[i3]):=by
   have:=hc i3 (by simpa using a8);rw[HR.o.below.cell (p:=⟨b,o+i3,none⟩) E,this];simp
  have aP:=HK.o.marks _ (List.getElem_mem a8);have am:rs[k+j+i3]? =some (77,r.marks[i3]):=by
   have ad:(r.notes.map VZ++r.Qc.map Xs).length=k+j:=by rw[List.length_append,List.length_map,List.length_map,←X.o,←Z.o]
   rw[a9.o,List.getElem?_append_right (by omega),ad,Nat.add_sub_cancel_left];simp[a8]
  rw[hA];generalize r.marks[i3]=t at*
  have aH:=Qa am;have ab:=Qa (show ∀wy,Calls prog 143 #[.int .u8 77,Qw t] wy fun e w'=>Kz wy w' (77,t) e from fun wy=>Vb (w:=wy) 77 t);clear am hc
  go_wp2_with (first
   |(go_at_call 143;refine(ab.o _).mono ?_;rintro en w3 ⟨⟨A3,c3,rfl,D,B⟩,z⟩;(have P:=Qa D);(have M:=Qa B);(have a:=Qa z);(have ar:w.heap.size≤w3.heap.size:=Nat.le_trans I a.o.size);(have F:=Qa (Qu ((HR.o.keep a.o).own) (.cells #[.int .u8 77,.slice A3 t.length c3] 247)));(have U:=Qa (Kq (Sl.Ja (sz:=2) (n:=1) (Qh.new w3 247 [.int .u8 77,.slice A3 t.length c3].toArray) rfl)));(have T:=Qa (show ∀u∈([.int .u8 77,.slice A3 t.length c3]:List Value),u.oneCell'=true from by simp[Value.oneCell']));clear D z B)
   |(at_builtin;refine Qv _ rfl _ _ 34 rfl w.heap.size 247 i0 _ 2 32 XM aa ag aj ai rfl (by decide) (.slice O (k+j+i3) cO) (k+j+i3) (QI L3) rfl F.o (some ⟨w3.heap.size,0,none⟩) 1 1 _ [.int .u8 77,.slice A3 t.length c3] rfl U.o T.o (by unfold maxLen;omega) (by omega) (by simp;omega) ?_;intro A4 c4 w4 hown4 hgr4 hnc4 _;(have l:=Qa hown4);(have C:=Qa hgr4);clear hown4 hgr4))
  go_roundw
  case rel=>exact⟨i3+1,_,by omega,by simp,HR.o.push aH.o (a.o.alloc a.o.size _) (P.o.below (bR.alloc nR _)) M.o (by decide) (by omega) l.o C.o⟩
  case measure=>simp[intOf];omega
 have aK:i3=nM:=by omega
 subst aK;have ao:¬((i3:Int)<i3):=by omega
 have hE:rs.length=k+j+i3:=by rw[ay.o,←X.o,←Z.o,←ah.o]
 have HE:=Qa hE;clear hE;go_wp2_with fail;go_ret;rw[HE.o];exact⟨L3,O,cO,rfl,HR.o⟩
end
def Zu(s:Nat):Nat:=if s<19∨4096<s then 0 else s-18
theorem Dh(s:Nat)(hs:s<2^62)(w:World):Calls prog 126 #[.int .i64 s] w fun e w'=>e=.returned (.int .i64 (Zu s:Nat))∧w=w':=by
 by_cases h1:s<19
 ·have e:Zu s=0:=by unfold Zu;rw[if_pos (.inl h1)]
  rw[e];have i1:(s:Int)<19:=by omega
  go_enter func126,ntmps126;go_wp2_with fail;go_ret;exact⟨rfl,rfl⟩
 have i1:¬(s:Int)<19:=by omega
 by_cases h2:4096<s
 ·have e:Zu s=0:=by unfold Zu;rw[if_pos (.inr h2)]
  rw[e];have i2:(s:Int)>4096:=by omega
  go_enter func126,ntmps126;go_wp2_with fail;go_ret;exact⟨rfl,rfl⟩
 have e:Zu s=s-18:=by unfold Zu;rw[if_neg (by omega)]
 rw[e];have i2:¬(s:Int)>4096:=by omega
 have i3:((s-18:Nat):Int)=(s:Int)-18:=by omega
 rw[i3];clear i3;go_enter func126,ntmps126;go_wp2_with fail;go_ret;exact⟨rfl,rfl⟩
theorem MS{s p:Nat}(hp:Zu s=p)(hp0:p≠0)(hn:n≤2^30)(hk:1≤k):k*p<n↔k<Qf s n:=by
 unfold Zu at hp;split at hp
 ·omega
 rename_i h;unfold Qf;rw[if_neg (by omega),hp];have h1:k<(n+p-1)/p↔k*p<n:=by
  rw[Nat.lt_iff_add_one_le,Nat.le_div_iff_mul_le (by omega),Nat.add_mul,Nat.one_mul];omega
 omega
theorem JE{s:Nat}:Qf s n≤2^30+1:=by
 unfold Qf;split
 ·omega
 rename_i h;have:(n+(s-18)-1)/(s-18)≤n:=by
  rcases Nat.eq_zero_or_pos n with h0|h0
  ·subst h0;rw[Nat.div_eq_of_lt (by omega)];omega
  refine Nat.div_le_of_le_mul ?_;obtain⟨k,hk⟩:∃k,s-18=k+1:=⟨s-19,by omega⟩;rw[hk];obtain⟨b',rfl⟩:∃b',n=b'+1:=⟨n-1,by omega⟩;have e:(k+1)*(b'+1)=k*b'+k+b'+1:=by
   rw[Nat.add_mul,Nat.mul_add];omega
  rw[e];omega
 omega
theorem RZ{s:Nat}(h:Zu s=0∨2^30<n):Qf s n=0:=by
 unfold Qf;rw[if_pos];unfold Zu at h;rcases h with h|h
 ·split at h<;>omega
 omega
theorem Ls{s:Nat}(h:Zu s≠0)(hn:n≤2^30):1≤Qf s n:=by
 unfold Zu at h;unfold Qf;split at h
 ·omega
 rw[if_neg (by omega)];omega
theorem V8(s n:Nat)(hs:s<2^62)(hn:n<2^62)(w:World):
  Calls prog 67 #[.int .i64 s,.int .i64 n] w fun e w'=>e=.returned (.int .i64 (Qf s n:Nat))∧w=w':=by
 have HP:=Qa (fun wy=>Dh s hs wy);have i1:¬(n:Int)<0:=by omega
 by_cases hp:Zu s=0
 ·rw[RZ (.inl hp)];rw[hp]at HP;go_enter func67,ntmps67;go_wp2_with (go_at_call 126;refine(HP.o _).mono ?_;rintro en w' ⟨rfl,rfl⟩);go_ret;exact⟨rfl,rfl⟩
 by_cases hb:2^30<n
 ·rw[RZ (.inr hb)];have j:((Zu s:Int)==0)=false:=by simp;omega
  have i2:(n:Int)>1073741824:=by omega
  go_enter func67,ntmps67;go_wp2_with (go_at_call 126;refine(HP.o _).mono ?_;rintro en w' ⟨rfl,rfl⟩);go_ret;exact⟨rfl,rfl⟩
 have j:((Zu s:Int)==0)=false:=by simp;omega
 have i2:¬(n:Int)>1073741824:=by omega
 have d:Zu s≤4078:=by unfold Zu;split<;>omega
 have hN:=JE (s:=s) (n:=n);have g:=Ls (n:=n) hp (by omega);have l:=Qa (fun k hk=>MS (s:=s) (n:=n) (k:=k) rfl hp (by omega) hk);obtain⟨p,b⟩:=eX (Zu s);obtain⟨M,hM⟩:=eX (Qf s n);rw[←hM]at hN g ⊢;rw[←b]at HP j d;have m:=Qa b;have HM:=Qa hM;clear b hM hp;go_enter func67,ntmps67;go_wp2_with (go_at_call 126;refine(HP.o _).mono ?_;rintro en w' ⟨rfl,rfl⟩);go_loopw [6] (fun i wr=>∃k:Nat,1≤k∧k≤M∧i=.int .i64 k∧wr=w) (fun i _=>M-(intOf i).toNat)
 case atStart=>exact⟨1,by omega,g,rfl,rfl⟩
 obtain⟨k,q,a0,rfl,rfl⟩:=hrel;have a:=l.o k q;rw[←m.o,←HM.o]at a;have f:k*p≤(2^30+1)*4078:=Nat.mul_le_mul (by omega) d;obtain⟨kp,c⟩:=eX (k*p);have hw:IntKind.i64.wrap ((k:Int)*(p:Int))=(kp:Int):=by
  rw[←Int.natCast_mul,←c,IntKind.wrap_i64];omega
 rw[←c]at a f;clear c;by_cases hlt:k<M
 ·have h1:(kp:Int)<n:=by have:=a.2 hlt;omega
  clear a;go_wp2_with fail;go_roundw
  case rel=>exact⟨k+1,by omega,by omega,by simp,trivial⟩
  case measure=>simp[intOf];omega
 have h1:¬(kp:Int)<n:=by
  have:¬kp<n:=fun h=>hlt (a.1 h)
  omega
 obtain rfl:k=M:=by omega
 clear a;go_wp2_with fail;go_ret;exact⟨rfl,rfl⟩
end Go.Proofs.YtmgmfnimaafkdaaGreatDoor
