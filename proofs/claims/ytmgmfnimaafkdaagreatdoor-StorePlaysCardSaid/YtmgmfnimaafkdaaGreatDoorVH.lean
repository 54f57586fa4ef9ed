/- Notes written and struck; a note undone. -/
import Derived.Test.YtmgmfnimaafkdaaGreatDoorVG
import Derived.StillTailTactics
namespace Go.Proofs.YtmgmfnimaafkdaaGreatDoor
set_option maxRecDepth 100000
set_option maxHeartbeats 0
open Go.RowKit Go.Maps
open Tryz
structure YN (d:Qq) (d1:Qq) (l1:QD) (sl:List (Qj × Qx)) (mp:Jt) (d2:Qq) (l2:QD):Prop where
 q4:4≤d.Qk.length/4
 n0:Qf d.size 201≠0
 nd:Qf d.size 201+Qf d.size 0≤d.Qk.length/4/2
 Bz:19≤d.size
 Cc:∃E,E+3<549755813880∧Ol d E
 wt:d.waits.length≤412316860416
 ol:ZR d 0 (d.Qk.length/4)=(0,d1,l1)
 Qo:∀r∈l1.Qo,∃x,XL r=some x
 Yp:l1.Qo.length≤100000
 Ba:l1.Qo≠[]→∃E,Ol d1 E
 BC:l1.Qo≠[]→∀x,(Jj d1 x).1≠10
 Bd:d1.size=d.size
 Bv:d1.Qk.length=d.Qk.length
 By:d1.waits.length≤824633720832
 D8:l1.size=d1.size
 ep:l1.epoch+1<549755813888
 cl:Kg d1 (Vu d1 l1 (d.Qk.length/4) d.Qk.length).Qc (Vu d1 l1 (d.Qk.length/4) d.Qk.length).map=(0,sl,mp)
 tn:Ju d1 l1 (Qn { Vu d1 l1 (d.Qk.length/4) d.Qk.length with Qc:=sl,map:=mp })=(0,d2,l2)
def KI(d d1:Qq)(l1:QD)(sl:List (Qj × Qx))(mp:Jt)(d2:Qq)(l2:QD):QM:={ Vu d1 l1 (d.Qk.length/4) d.Qk.length with Qc:=sl,map:=mp,d:=d2,log:=l2 }
def Kh(d1:Qq)(l1:QD)(q n:Nat):QM:=⟨d1,l1,⟨q,n-q,if 0<n-q then[(q,n-q)]else[]⟩,[],[],[],0,0⟩
variable {d d1 d2:Qq} {l1 l2:QD} {mp:Jt}
theorem YN.is{sl:List (Qj × Qx)}(h:YN d d1 l1 sl mp d2 l2):Wf d=(0,d2,some (KI d d1 l1 sl mp d2 l2)):=by
 have h1:=h.q4;have h2:=h.n0;have h3:=h.nd;have h4:=h.cl;have h5:=h.tn;unfold Wf;simp only;rw[if_neg (by omega),h.ol];simp only;unfold Vu at h4 h5;rw[h4];simp only;rw[h5];rfl
structure Ub (s0 s:QM) (k:Nat):Prop where
 eq:s={ s0 with Qc:=s.Qc }
 Iq:Xa s.Qc
 num:∀x∈s.Qc,Kf x∧x.2.len≤1048576
 len:s.Qc.length≤k
variable {size:Nat}
theorem No{b:Nat}(hb:1≤b):Qf size b≤b:=by
 unfold Qf;split
 ·omega
 rename_i h;obtain⟨k,hk⟩:∃k,size-18=k+1:=⟨size-19,by omega⟩;rw[hk];have:(b+(k+1)-1)/(k+1)≤b:=by
  refine Nat.div_le_of_le_mul ?_;obtain⟨b',rfl⟩:∃b',b=b'+1:=⟨b-1,by omega⟩;have e:(k+1)*(b'+1)=k*b'+k+b'+1:=by
   rw[Nat.add_mul,Nat.mul_add];omega
  rw[e];omega
 omega
theorem Mc{r:QN}{n:Qj}{a m:Int}{b:Nat}(h:XL r=some (n,a,b,m))(size:Nat):Kf (n,(⟨a,Qf size b,b,m⟩:Qx))∧Qf size b≤1048576:=by
 unfold XL at h;split at h
 ·split at h
  ·rename_i v n' a' b' m' hn;split at h
   ·rename_i hc;injection h with h;injection h with h1 h;injection h with h2 h;injection h with h3 h4;subst h1;subst h2;subst h3;subst h4;simp only[Bool.and_eq_true,decide_eq_true_eq]at hc;obtain⟨⟨⟨⟨c1,c2⟩,c3⟩,c4⟩,c5⟩:=hc;have:=No (size:=size) (b:=b'.toNat) (by omega);exact⟨⟨c1,c2,c4,by show b'.toNat≤1048576;omega,c5.1,c5.2⟩,by omega⟩
   cases h
  cases h
 cases h
variable {k:Nat} {s s0:QM}
theorem Ub.step{r:QN}(h:Ub s0 s k)(hr:∃x,XL r=some x):Ub s0 (Zf s r) (k+1):=by
 obtain⟨⟨n,a,b,m⟩,hx⟩:=hr;have hd:s.d=s0.d:=by rw[h.eq]
 have hn:=Mc hx s.d.size;rw[WC hx];refine⟨?_,Z3 h.Iq,fun y hy=> ?_,Nat.le_trans (Zl _) (Nat.succ_le_succ h.len)⟩
 ·have:=h.eq;show { s with Qc:=_ }={ s0 with Qc:=_ };rw[this]
 rcases VR hy with e|hy
 ·subst e;exact hn
 exact h.num y hy
theorem RM{s0:QM}:∀(rs:List QN)(s:QM)(k:Nat),Ub s0 s k→(∀r∈rs,∃x,XL r=some x)→Ub s0 (rs.foldl Zf s) (k+rs.length)
 |[],s,k,h,_=>h
 |r::rs,s,k,h,hr=>by
  have:=RM rs (Zf s r) (k+1) (h.step (hr r List.mem_cons_self)) (fun x hx=>hr x (List.mem_cons_of_mem _ hx));have e:k+(r::rs).length=k+1+rs.length:=by simp only[List.length_cons];omega
  rw[e];exact this
theorem N6(d1:Qq)(l1:QD)(q n:Nat):Ub (Kh d1 l1 q n) (Kh d1 l1 q n) 0:=⟨rfl,List.Pairwise.nil,(fun x hx=>by cases hx),nR⟩
theorem YN.EE{sl:List (Qj × Qx)}(h:YN d d1 l1 sl mp d2 l2)(k:Nat):
  Ub (Kh d1 l1 (d.Qk.length/4) d.Qk.length) ((l1.Qo.take k).foldl Zf (Kh d1 l1 (d.Qk.length/4) d.Qk.length)) (0+(l1.Qo.take k).length):=
 RM _ _ 0 (N6 d1 l1 _ _) fun r hr=>h.Qo r (List.mem_of_mem_take hr)
theorem OS(d:Qq)(n:Qj)(x:Qx)(l:List (Qj × Qx))(m:Jt)(hx:0≤x.at')(h10:(Jj d x).1≠10):
  Kg d ((n,x)::l) m=if(Jj d x).1=0∧(KA m x.at'.toNat x.len).1=0 then(match Kg d l (KA m x.at'.toNat x.len).2 with
   |(e,r,m')=>(e,(n,x)::r,m'))else Kg d l m:=by
 rw[Kg];rcases ht:Jj d x with⟨e,b⟩;rw[ht]at h10;simp only at h10 ⊢;cases e with
 |zero=>
  simp only[true_and];rw[if_neg (by omega)];rcases hc:KA m x.at'.toNat x.len with⟨e2,m1⟩;cases e2 with
  |zero=>simp
  |succ e2=>simp
 |succ e=>
  by_cases h9:e=9
  ·subst h9;exact absurd rfl h10
  rw[if_neg (by omega)];split
  ·rename_i h;injection h with h;omega
  ·rename_i h;injection h with h;omega
  rfl
variable {a:Nat}
theorem FA{m:Jt}{l:Nat}(h:(KA m a l).1≠0):(KA m a l).2=m:=by
 unfold KA at h ⊢;split at h
 ·rename_i h1;rw[if_pos h1]
 rename_i h1;rw[if_neg h1];simp only at h ⊢;split at h
 ·rename_i h2;rw[if_pos h2]
 exact absurd rfl h
def Wr(d:Qq):Bool:=
 decide (4≤d.Qk.length/4)&&decide (Qf d.size 201≠0)&&decide (Qf d.size 201+Qf d.size 0≤d.Qk.length/4/2)&&decide (19≤d.size)&&N9 d 1000&&decide (d.waits.length≤1000)&&(match ZR d 0 (d.Qk.length/4)with
 |(0,d1,l1)=>(l1.Qo.all fun r=>(XL r).isSome)&&decide (l1.Qo.length≤1000)&&N9 d1 1000&& !d1.off&&decide (d1.size=d.size)&&decide (d1.Qk.length=d.Qk.length)&&decide (d1.waits.length≤1000)&&decide (l1.size=d1.size)&&decide (l1.epoch≤1000)&&(match Kg d1 (Vu d1 l1 (d.Qk.length/4) d.Qk.length).Qc (Vu d1 l1 (d.Qk.length/4) d.Qk.length).map with
  |(0,sl,mp)=>(match Ju d1 l1 (Qn { Vu d1 l1 (d.Qk.length/4) d.Qk.length with Qc:=sl,map:=mp })with
   |(0,_,_)=>true
   |_=>false)
  |_=>false)
 |_=>false)
theorem ES(h:d.off=false)(n:Nat):(Vh d n).1≠10:=by
 unfold Vh;split
 ·simp
 rw[h];simp only[Bool.false_eq_true,if_false];cases d.told n<;>simp
theorem WO{d:Qq}(h:d.off=false)(a:Nat):∀(k i:Nat)(hd:P7)(out:List UInt8),(Va d a k i hd out).1≠10
 |0,_,_,_=>by simp[Va]
 |k+1,i,hd,out=>by
  unfold Va;have h1:=ES h (a+i);rcases hr:Vh d (a+i)with⟨e,s⟩;rw[hr]at h1;cases e with
  |succ e=>exact h1
  |zero=>
   simp only;split
   ·simp
   cases hx:J4 s with
   |none=>simp
   |some x=>
    simp only;split
    ·simp
    split
    ·simp
    by_cases hi:i=0
    ·simp only[if_pos hi];split
     ·simp
     exact WO h a k _ _ _
    simp only[if_neg hi];split
    ·simp
    exact WO h a k _ _ _
theorem Gr(h:d.off=false)(x:Qx):(Jj d x).1≠10:=by
 unfold Jj;split
 ·simp
 have h1:(KE d x.at'.toNat).1≠10:=by
  unfold KE;split
  ·simp
  exact WO h _ _ _ _ _
 rcases hg:KE d x.at'.toNat with⟨e,r⟩;rw[hg]at h1;split
 ·rename_i h2;injection h2 with h2;exact absurd h2 h1
 ·split<;>simp
 simp
theorem TC(h:Wr d=true):∃d1 l1 sl mp d2 l2,YN d d1 l1 sl mp d2 l2:=by
 unfold Wr at h;simp only[Bool.and_eq_true,decide_eq_true_eq]at h;obtain⟨⟨⟨⟨⟨⟨h1,h2⟩,h3⟩,h4⟩,h5⟩,h6⟩,h7⟩:=h;split at h7
 ·rename_i d1 l1 ho;simp only[Bool.and_eq_true,decide_eq_true_eq,Bool.not_eq_true']at h7;obtain⟨⟨⟨⟨⟨⟨⟨⟨⟨g1,g2⟩,g3⟩,g4⟩,g5⟩,g6⟩,g7⟩,g8⟩,g9⟩,h7⟩:=h7;split at h7
  ·rename_i sl mp hc;split at h7
   ·rename_i d2 l2 ht;exact⟨d1,l1,sl,mp,d2,l2,h1,h2,h3,h4,⟨1000,by omega,PT h5⟩,by omega,ho,fun r hr=>Option.isSome_iff_exists.1 (List.all_eq_true.1 g1 r hr),by omega,fun _=>⟨1000,PT g3⟩,fun _ x=>Gr g4 x,g5,g6,by omega,g8,by omega,hc,ht⟩
   cases h7
  cases h7
 cases h7
section
open Go.Shelf Go.Sort
variable {v:Value} {w w':World}
theorem Jh{b:Nat}(ht:w.mapTurned w' b){p:Addr}(h:w.cell? p=some v):w'.cell? p=some v:=by
 have hg:=ht.grown;obtain⟨es,cl,a0,a1,hm,_⟩:=ht;by_cases e:p.block=b
 ·subst e;simp[World.cell?, hm]at h
 have hl:p.block<w.heap.size:=by
  by_cases hlt:p.block<w.heap.size
  ·exact hlt
  have:w.heap[p.block]? =none:=Array.getElem?_eq_none (by omega);simp[World.cell?, this]at h
 have:=hg.block p.block hl (by intro h;injection h with h;exact e h);rw[←h];simp only[World.cell?, this]
theorem OB(w:World)(A:Option Addr)(c:Nat)(t:List UInt8)(h:Kb w A t)(ht:0<t.length):(convert 43 9 (.slice A t.length c)).run prog w=.ok (Qw t) w:=by
 obtain⟨b,o,rfl,_,_,hc⟩:=h.at ht
 exact run_convert_bytes_back (P:=prog) w 43 9 5 ⟨b,o,none⟩ c t VI underlying5 underlying9 (fun j hj=>by
  rw[J3];exact hc j hj)
variable {Sb:Nat} {m:KY}
theorem QO.Gm{base:Nat}(h:QO w base Sb s m)(hs:Xa s.Qc)(hr:∀x∈s.Qc,Kf x∧x.2.len≤1048576)(hl:s.Qc.length≤1000000)(n:Qj)(x:Qx)(hn:Kf (n,x)∧x.len≤1048576):
  ∃w',(Instr.mapUpdate 125 (.map (some m.Pb)) (QZ n) (Kv x)).run prog w=.ok () w'∧QO w' base Sb { s with Qc:=JL n x s.Qc } m∧Qt base m m w w'∧Qd base [1000000] w w'∧w.mapTurned w' m.Pb:=by
 have d:TQ n:=⟨Q8 hn.1.1,Q8 hn.1.2.1⟩;obtain⟨w',b,c,a⟩:=h.pmap.put (by unfold maxLen;omega) d x
 obtain⟨h1,h2⟩:=h.sliced a (c.congr fun y _=>IB n x y s.Qc) (Z3 hs) (fun y hy=>by
  rcases VR hy with e|hy
  ·subst e;exact hn
  exact hr y hy)
 exact⟨w',b,h1,h2,KV.YT a h.Iw h.lt,a⟩
theorem Ta{base:Nat}(h:QO w base Sb s m)(hs:Xa s.Qc)(hr:∀x∈s.Qc,Kf x∧x.2.len≤1048576)(hl:s.Qc.length≤1000000)
  (v n a mk:Int)(b:Nat)(hv:Qs v=true)(hn:Qs n=true)(hb:1≤b∧b≤1048576)(ha:0≤a∧a≤65536)(hm:0≤mk∧mk<9223372036854775808):
  Calls prog 116 #[.pointer (some ⟨Sb,0,none⟩),Qw (Qi [v,n,a,(b:Int),mk])] w fun e w'=>e=.returned (.tuple #[])∧QO w' base Sb { s with Qc:=JL (v,n) ⟨a,Qf s.d.size b,b,mk⟩ s.Qc } m∧Qd base [1000000] w w':=by
 have HH:=Qa h;have E:=h.lt;have a1:=h.blk.lt;have I:0≤v∧v≤1099511627776:=by unfold Qs at hv;simpa using hv
 have F:0≤n∧n≤1099511627776:=by unfold Qs at hn;simpa using hn
 have HN:Qb (Calls prog 115 #[Qw (Qi [v,n,a,(b:Int),mk]),.int .i64 5] w fun e w'=>∃A c,e=.returned (.tuple #[.slice A 5 c,.bool true])∧Rd w' w'.heap.size 1 A 5 (J8 [v,n,a,(b:Int),mk])∧Below w.heap.size w w'):=
  Ns [v,n,a,(b:Int),mk] (by simp) (by simp) (fun x hx=>by
   simp only[List.mem_cons,List.not_mem_nil,or_false]at hx;rcases hx with rfl|rfl|rfl|rfl|rfl<;>omega) h.Rn.tb
 have R1:=Qa (fun wy=>show Calls prog 104 #[.int .i64 v] wy fun e w'=>e=.returned (.bool true)∧wy=w' from by have:=KR v wy;rw[hv]at this;exact this);have R2:=Qa (fun wy=>show Calls prog 104 #[.int .i64 n] wy fun e w'=>e=.returned (.bool true)∧wy=w' from by have:=KR n wy;rw[hn]at this;exact this);have G:=No (size:=s.d.size) hb.1;have l:=@Qa (Kf ((v,n),(⟨a,Qf s.d.size b,b,mk⟩:Qx))∧(⟨a,Qf s.d.size b,b,mk⟩:Qx).len≤1048576) (⟨⟨hv,hn,ha,hb.2,hm.1,hm.2⟩,by show Qf s.d.size b≤1048576;omega⟩);have u:=Qa (fun(wy:World)(hy:Below w.heap.size w wy)=>FW (HH.o.below hy) a mk b (by omega));have k:=Qa (fun(wy:World)(hy:Below w.heap.size w wy)=>(HH.o.below hy).Gm hs hr hl (v,n) ⟨a,Qf s.d.size b,b,mk⟩ l.o);have J:¬((b:Int)<1):=by omega
 have H:¬((b:Int)>1048576):=by omega
 clear h hs hr hv hn I F G l;generalize Qf s.d.size b=nd at*
 generalize Qi [v,n,a,(b:Int),mk]=tx at*
 go_enter func116,ntmps116;go_upto_region 1 with(go_at_call 115;refine HN.o.mono ?_;rintro en w1 ⟨A,c,rfl,B,j⟩;(have y:=Qa B);(have i:=Qa j);clear B j);obtain⟨g,o,hA,f,hc⟩:=y.o.2 (by omega);subst hA;have c0:w1.cell? ⟨g,o,none⟩=some (.int .i64 v):=hc 0 (by simp[J8]);have c1:w1.cell? ⟨g,o+1,none⟩=some (.int .i64 n):=hc 1 (by simp[J8]);have c2:w1.cell? ⟨g,o+2,none⟩=some (.int .i64 a):=hc 2 (by simp[J8]);have c3:w1.cell? ⟨g,o+3,none⟩=some (.int .i64 b):=hc 3 (by simp[J8]);have c4:w1.cell? ⟨g,o+4,none⟩=some (.int .i64 mk):=hc 4 (by simp[J8]);clear hc
 go_upto_region 2 with(first
  |((fail_if_success (have:=RR));go_at_call 104;refine(R1.o _).mono ?_;rintro en w' ⟨rfl,rfl⟩;(have RR:=@Qa (True) (trivial)))
  |(go_at_call 104;refine(R2.o _).mono ?_;rintro en w' ⟨rfl,rfl⟩))
 clear RR R1 R2 J H HN y;have p:=i.o.size
 have q:=@Qa (∀wy,Below w1.heap.size w1 wy→wy.cell? ⟨Sb,5,none⟩=some (.map (some m.Pb))∧wy.cell? ⟨g,o,none⟩=some (.int .i64 v)∧wy.cell? ⟨g,o+1,none⟩=some (.int .i64 n)∧wy.cell? ⟨g,o+2,none⟩=some (.int .i64 a)∧wy.cell? ⟨g,o+3,none⟩=some (.int .i64 b)∧wy.cell? ⟨g,o+4,none⟩=some (.int .i64 mk)) (fun wy hy=>by
  have hh:=HH.o.below (i.o.trans (hy.mono p));exact⟨hh.blk.cell 5,(hy.cell f).trans c0,(hy.cell f).trans c1,(hy.cell f).trans c2,(hy.cell f).trans c3,(hy.cell f).trans c4⟩)
 have S0:=Qa (q.o _ bR.drew)
 have D:=@Qa (∀wy,Below w1.heap.size w1 wy→∃w4,(Instr.mapUpdate 125 (.map (some m.Pb)) (.agg #[.int .i64 v,.int .i64 n]) (Kv ⟨a,nd,b,mk⟩)).run prog wy=.ok () w4∧(QO w4 base Sb { s with Qc:=JL (v,n) ⟨a,nd,b,mk⟩ s.Qc } m∧Qd base [1000000] w w4)∧wy.cell? ⟨Sb,5,none⟩=some (.map (some m.Pb))∧(w4.cell? ⟨Sb,5,none⟩=some (.map (some m.Pb))∧w4.cell? ⟨g,o,none⟩=some (.int .i64 v)∧w4.cell? ⟨g,o+1,none⟩=some (.int .i64 n)∧w4.cell? ⟨g,o+2,none⟩=some (.int .i64 a)∧w4.cell? ⟨g,o+3,none⟩=some (.int .i64 b)∧w4.cell? ⟨g,o+4,none⟩=some (.int .i64 mk))) (fun wy hy=>by
  have r:=i.o.trans (hy.mono p);obtain⟨w4,h1,h2,h3,h4,h5⟩:=k.o wy r;obtain⟨d0,d1,d2,d3,d4,d5⟩:=q.o wy hy;exact⟨w4,h1,⟨h2,(Qd.Qe r E).trans h4⟩,d0,Jh h5 d0,Jh h5 d1,Jh h5 d2,Jh h5 d3,Jh h5 d4,Jh h5 d5⟩)
 clear c0 c1 c2 c3 c4 k
 go_region_held3 (fun wy=>wy.cell? ⟨Sb,5,none⟩=some (.map (some m.Pb))∧wy.cell? ⟨g,o,none⟩=some (.int .i64 v)∧wy.cell? ⟨g,o+1,none⟩=some (.int .i64 n)∧wy.cell? ⟨g,o+2,none⟩=some (.int .i64 a)∧wy.cell? ⟨g,o+3,none⟩=some (.int .i64 b)∧wy.cell? ⟨g,o+4,none⟩=some (.int .i64 mk))
  (first|exact S4.o|exact q.o _ C.o|exact S0.o)
  (first
   |(go_at_call 170;refine(u.o _ (i.o.trans (bR.drew.mono p))).mono ?_;rintro en w3 ⟨rfl,t⟩;(have C:Qb (Below w1.heap.size w1 w3):=bR.drew.trans t);(obtain⟨w4,a0,h4,_,z⟩:=D.o _ C.o);(have H4:=Qa h4);(have S4:=Qa z);clear t h4 z))
 all_goals
  go_wp2_with fail
  go_end0
  exact⟨rfl,H4.o⟩
theorem ED{base:Nat}(h:QO w base Sb s m)(hs:Xa s.Qc)(hr:∀x∈s.Qc,Kf x∧x.2.len≤1048576)(hl:s.Qc.length≤1000000)
  (r:QN)(x:Qj × Int × Nat × Int)(hx:XL r=some x)(A:Option Addr)(c:Nat)(hby:Kb w A r.2):
  Calls prog 60 #[.pointer (some ⟨Sb,0,none⟩),.agg #[.int .u8 r.1,.slice A r.2.length c]] w fun e w'=>e=.returned (.tuple #[])∧QO w' base Sb (Zf s r) m∧Qd base [1000000] w w':=by
 obtain⟨nm,a,b,mk⟩:=x;have hE:=WC (s:=s) hx;rw[hE];obtain⟨kd,t⟩:=r;unfold XL at hx;simp only at hx hby ⊢;split at hx
 ·rename_i hk;split at hx
  ·rename_i v n a' b' m' hn;split at hx
   ·rename_i hc;injection hx with hx;injection hx with h1 hx;injection hx with h2 hx;injection hx with h3 h4;subst h1;subst h2;subst h3;subst h4;simp only[Bool.and_eq_true,decide_eq_true_eq]at hc;obtain⟨⟨⟨⟨c1,c2⟩,c3⟩,c4⟩,c5⟩:=hc;obtain⟨n1,_,_,_⟩:=Pf hn;obtain⟨b,rfl⟩:∃b:Nat,b'=b:=⟨b'.toNat,by omega⟩;simp only[Int.toNat_natCast];have j:=h.lt;have a0:=h.blk.lt;subst hk;have g:0<t.length:=by
     rcases Nat.eq_zero_or_pos t.length with h0|h0
     ·have:t=[]:=List.eq_nil_of_length_eq_zero h0;subst this;exfalso;have h1:=congrArg List.length n1;simp[Qi,Lib.join]at h1
     exact h0
    have HS:=@Qa (∀wy,Below w.heap.size w wy→Calls prog 116 #[.pointer (some ⟨Sb,0,none⟩),Qw t] wy fun e w'=>e=.returned (.tuple #[])∧QO w' base Sb { s with Qc:=JL (v,n) ⟨a',Qf s.d.size b,b,m'⟩ s.Qc } m∧Qd base [1000000] wy w') (fun wy hy=>by
     have:=Ta (h.below hy) hs hr hl v n a' m' b c1 c2 (by omega) c4 c5;rw[n1]at this;exact this)
    have HX:=Qa (Qh.new w 137 #[.int .u8 83,.slice A t.length c]);have f:Qb (Below w.heap.size w (w.alloc (.cells #[.int .u8 83,.slice A t.length c] 137))):=bR.alloc nR _;have i:=@Qa (∀wy,Below w.heap.size w wy→(convert 43 9 (.slice A t.length c)).run prog wy=.ok (Qw t) wy) (fun wy hy=>OB wy A c t (hby.below hy) g);clear h hs hr hby hE n1 hn;go_enter func60,ntmps60;go_upto_region 1 with fail;generalize w.alloc (.cells #[.int .u8 83,.slice A t.length c] 137)=w1 at*
    have x0:w1.cell? ⟨w.heap.size,0,none⟩=some (.int .u8 83):=HX.o.cell 0;have x1:w1.cell? ⟨w.heap.size,1,none⟩=some (.slice A t.length c):=HX.o.cell 1;have xl:=HX.o.lt;have a1:=i.o _ f.o;go_wp2_with (go_at_call 116;refine(HS.o _ f.o).mono ?_;rintro en w2 ⟨rfl,h2,k2⟩;(have H2:=Qa h2);(have K2:=Qa k2);clear h2 k2)
    go_end0
    exact⟨rfl,H2.o,(Qd.Qe f.o j).trans K2.o⟩
   cases hx
  cases hx
 cases hx
end
section
open Go.Shelf Go.Sort
theorem ZI:prog.underlying 33=some (.slice 9):=by kernel_rfl
theorem Gk:(prog.info? 9).map (fun i=>(i.zero,i.size,i.bytes))=some (some (.string ⟨#[]⟩),1,16):=by kernel_rfl
theorem Xc{P:Program}(w:World){ops:Array Oper}{o:Oper}{a:Act}{K:Act→World→Prop}{Q:Exit→Act→World→Prop}{E:Prop}(hgd:o.guard=none)(s x:Operand)(t:TypeId)
  (ho:o.op=.call { callee:=.builtin .append,args:=#[s,x],argTypes:=#[t,t] })
  (base:Nat)(e:TypeId)(i:TypeInfo)(z:Value)(size bytes:Nat)(ht:P.underlying t=some (.slice e))(hi:P.info? e=some i)(hz:i.zero=some z)
  (hsize:i.size=size)(hby:i.bytes=bytes)(hzs:z.cells.size=size)(hsz:0<size)
  (v:Value)(n:Nat)(xs:List Value)(hs:a.eval s=v)(hown:w.ownsRow base e size v n xs)
  (A:Option Addr)(m c B:Nat)(news:List Value)(hx:a.eval x=.slice A m c)(hr:Rd w B size A m news)(h1:∀u∈news,u.oneCell'=true)
  (h63:n+m≤maxLen)(hbytes:(n+m)*bytes≤140737488355328)(hbase:base≤w.heap.size)
  (h:∀A' c' w',w'.ownsRow base e size (.slice A' (n+m) c') (n+m) (xs++news)→w.grownBy w' v.ownBlock→n+m≤c'→((Value.slice A' (n+m) c').ownBlock=v.ownBlock∨(Value.slice A' (n+m) c').ownBlock=some w.heap.size)→K (a.put o.dst (.slice A' (n+m) c')) w'):
  if Region.wanted o (yielded ops a.tmps)=true then Oper.wp P o a w K Q else E:=by
 have hw:Region.wanted o (yielded ops a.tmps)=true:=by simp[Region.wanted,hgd]
 rw[if_pos hw];obtain⟨A',c',w',b,h2,h3,h4,h5⟩:=XJ (P:=P) w base t o.type e i z size bytes ht hi hz hsize hby hzs hsz v n xs hown A m c B news hr h1 h63 hbytes hbase;unfold Oper.wp execOp;simp only[ho,resolve,invoke,builtin,Sem.run_bind,Sem.run_pure,Result.andThen_ok,List.map_toArray,List.map_cons,List.map_nil,hs,hx,b];exact h A' c' w' h2 h3 h4 h5
variable {A:Option Addr} {Sb c:Nat} {m:KY} {w w':World}
theorem QO.Pv{base:Nat}(h:QO w base Sb s m)(k:Qd base [9,129] w w'){l':List (List UInt8)}(hb:Qh w' Sb 129 (Ef { s with marks:=l' } { m with A:=A,c:=c }))(ho:w'.ownsRow base 9 1 (.slice A l'.length c) l'.length (l'.map Qw)):
  QO w' base Sb { s with marks:=l' } { m with A:=A,c:=c }:=
 ⟨h.low,hb,h.Ul.keeps k (by decide) (by decide) (by decide) (by decide) (by decide),h.log.keeps k (by decide) (by decide) (by decide),h.map.keeps k (by decide) (by decide),h.OG.keeps k (by decide),h.Wn,h.pmap.keeps k (by decide),h.Iw,h.ne,ho,h.Rn.below k.below,h.b2⟩
variable {w4:World}
theorem QO.Cu{base:Nat}(h:QO w base Sb s m){t:List UInt8}(hg:w.grownBy w4 (Value.slice m.A s.marks.length m.c).ownBlock)(ho:w4.ownsRow base 9 1 (.slice A (s.marks.length+1) c) (s.marks.length+1) (s.marks.map Qw++[Qw t]))
  (hn:(Value.slice A (s.marks.length+1) c).ownBlock=(Value.slice m.A s.marks.length m.c).ownBlock∨(Value.slice A (s.marks.length+1) c).ownBlock=some w.heap.size):
  QO (w4.setCell ⟨Sb,6,none⟩ (.slice A (s.marks.length+1) c)) base Sb { s with marks:=s.marks++[t] } { m with A:=A,c:=c }∧Qt base m { m with A:=A,c:=c } w (w4.setCell ⟨Sb,6,none⟩ (.slice A (s.marks.length+1) c))∧Qd base [9,129] w (w4.setCell ⟨Sb,6,none⟩ (.slice A (s.marks.length+1) c))∧Qh w4 Sb 129 (Ef s m):=by
 have k4:Qd base [9] w w4:=Q7 h.Xk hg h.lt;have b4:=h.blk.keeps k4 (by decide);have k5:Qd base [129] w4 (w4.setCell ⟨Sb,6,none⟩ (.slice A (s.marks.length+1) c)):=(Qd.refl base [129] w4).set b4 h.low (by simp) _;have k6:=(k4.mono nR (ts':=[9,129]) (by simp)).trans (k5.mono nR (by simp));have b5:Qh (w4.setCell ⟨Sb,6,none⟩ (.slice A (s.marks.length+1) c)) Sb 129 (Ef { s with marks:=s.marks++[t] } { m with A:=A,c:=c }):=by
  have:=b4.set 6 (.slice A (s.marks.length+1) c);unfold Ef at this ⊢;simpa using this
 have o5:=QF ho k5 (by decide);refine⟨h.Pv k6 b5 (by simpa using o5),⟨k6.below,fun k ty hk hn' h1 h2 h3=> ?_,rfl,rfl,rfl,rfl,rfl,fun a ha=> ?_⟩,k6,b4⟩
 ·have d:k≠Sb:=fun e=>by
   subst e;have:=h.blk.ty.symm.trans hk;injection this with this;exact hn' (by rw[←this];simp)
  rw[Below.heap_setCell w4 ⟨Sb,6,none⟩ _ k d];refine hg.block k (YB hk) (fun e=> ?_);cases hA:m.A with
  |none=>rw[hA]at e;simp[Value.ownBlock]at e
  |some a=>rw[hA]at e;simp[Value.ownBlock]at e;exact h3 a hA e
 have ha:A=some a:=ha;subst ha;rcases hn with e|e
 ·cases hA:m.A with
  |none=>rw[hA]at e;simp[Value.ownBlock]at e
  |some b=>rw[hA]at e;simp[Value.ownBlock]at e;exact .inl ⟨b,rfl,e⟩
 simp[Value.ownBlock]at e;exact .inr (by omega)
variable {e n:Nat} {xs:List Value}
theorem Lf{base:Nat}(h:w.ownsRow base e 1 (.slice A n c) n xs)(hk:k≤n)(hn:A=none→k=0∧c=0):w.ownsRow base e 1 (.slice A k c) k (xs.take k):=by
 refine⟨by rw[List.length_take,Dx h];omega, ?_⟩;rcases h.2 with⟨hv,h0⟩|⟨g,cap,cur,hv,hb,hg,h1,h2,h3,h4⟩
 ·injection hv with h5 h6 h7;subst h5;subst h7;exact .inl ⟨by rw[(hn rfl).1],by omega⟩
 injection hv with h5 h6 h7;subst h5;subst h7;exact .inr ⟨g,c,cur,rfl,hb,hg,by omega,h2,h3,by rw[←h4,List.take_take];congr 1;omega⟩
variable {X:Nat}
theorem PL{base:Nat}{t:List UInt8}(h:QO w base Sb { s with marks:=s.marks++[t] } m)(hx:Qh w X 28 #[.pointer (some ⟨Sb,0,none⟩)])(hl:s.marks.length<1000000):
  Calls prog 72 #[.pointer (some ⟨X,0,none⟩)] w fun e w'=>e=.returned (.tuple #[])∧∃m',QO w' base Sb s m'∧Qt base m m' w w':=by
 obtain⟨nn,a⟩:=eX s.marks.length;have b:(s.marks++[t]).length=nn+1:=by simp[a]
 have ho:=h.Xk;have hb:=h.blk;simp only[Ef]at hb ho;rw[b]at ho hb;obtain⟨g,hA,a0,a3,_⟩:=Uf ho (by omega);have hs:=Lf ho (k:=nn) (by omega) (fun e=>by rw[hA]at e;cases e);have d:((s.marks++[t]).map Qw).take nn=s.marks.map Qw:=by rw[List.map_append,List.take_left' (by simp[a])]
 rw[d]at hs;obtain⟨_,_,hv,i⟩:=Jg ho;injection hv with _ _ hv;subst hv;have HH:=Qa h;have HB:=Qa hb;have HO:=Qa hs;have f:=h.low;have a2:=h.lt;have c0:w.drew.cell? ⟨X,0,none⟩=some (.pointer (some ⟨Sb,0,none⟩)):=hx.drew.cell 0;have c6:w.drew.cell? ⟨Sb,6,none⟩=some (.slice m.A (nn+1) m.c):=hb.drew.cell 6;have f6:=hb.drew.free 6;have xl:X<w.drew.heap.size:=hx.lt;have bl:Sb<w.drew.heap.size:=hb.lt;have q1:((nn+1:Nat):Int)-1=(nn:Int):=by omega
 have q2:IntKind.i64.wrap (nn:Int)=(nn:Int):=by rw[IntKind.wrap_i64];omega
 have a1:nn+1≤m.c:=i;have q3:(nn:Int)≤(m.c:Int):=by omega
 have q4:(0:Int)≤(nn:Int):=by omega
 have j:=Qa a;rw[hA]at c6;have HA:=Qa hA;clear h hb ho hs d b a hx i hA;go_enter func72,ntmps72;go_upto_region 0 with fail
 go_still_tail 14,(by kernel_rfl)
 go_simp;go_wp2
 go_end0
 obtain rfl:nn=s.marks.length:=j.o;have k5:Qd base [129] w (w.setCell ⟨Sb,6,none⟩ (.slice (some ⟨g,0,none⟩) s.marks.length m.c)):=(Qd.refl base [129] w).set HB.o f (by simp) _;have b5:Qh (w.setCell ⟨Sb,6,none⟩ (.slice (some ⟨g,0,none⟩) s.marks.length m.c)) Sb 129 (Ef s m):=by
  have:=HB.o.set 6 (.slice (some ⟨g,0,none⟩) s.marks.length m.c);unfold Ef;rw[HA.o];simpa using this
 have o5:=QF HO.o k5 (by decide);have h5:QO (w.setCell ⟨Sb,6,none⟩ (.slice (some ⟨g,0,none⟩) s.marks.length m.c)) base Sb s m:=HH.o.Pv (l':=s.marks) (A:=m.A) (c:=m.c) (k5.mono nR (by simp)) b5 o5;have e5:Qt base m m w (w.setCell ⟨Sb,6,none⟩ (.slice (some ⟨g,0,none⟩) s.marks.length m.c)):=Qt.of k5 (by simp);exact⟨rfl,m,h5.below bR.drew,e5.trans (Qt.of (ts:=[]) (Qd.Qe (base:=base) bR.drew h5.lt) (by simp))⟩
end
section
open Go.Shelf Go.Sort
variable {Sb g:Nat} {cs:Array Value} {m:KY} {t:TypeId} {w w':World}
theorem Qt.blk{base:Nat}{m':KY}(k:Qt base m m' w w')(h:QO w base Sb s m)(hb:Qh w g t cs)(ht:t∉([121,165,167,216,137,220,129]:List TypeId))(h9:(9:TypeId)≠t):Qh w' g t cs:=
 (k.old g t hb.ty ht (fun e=>h.OG.FP hb e.symm) (fun e=>h.pmap.FP hb e.symm) (fun a ha e=>Xl h.Xk hb h9 (by rw[ha];simp[Value.ownBlock,e]))).trans hb
theorem Qt.Qe{base:Nat}(h:Below w.heap.size w w')(hb:base≤w.heap.size):Qt base m m w w':=Qt.of (ts:=[]) (Qd.Qe h hb) (by simp)
def Xy(w w':World)(base Sb:Nat)(m:KY)(r:Nat × QM)(e:Ending):Prop:=e=.returned (.int .i64 r.1)∧∃m',QO w' base Sb r.2 m'∧Qt base m m' w w'
theorem XA.marked(ok:XA s){t:List UInt8}(ht:t.length≤3000):MF { s with marks:=s.marks++[t] }:=by
 have h:=ok.l;refine⟨h.Vn,h.num,h.VL,h.Xv,fun x hx=> ?_,h.nS,h.nN, ?_⟩
 ·rcases List.mem_append.1 hx with hx|hx
  ·exact h.Xk x hx
  rw[List.mem_singleton]at hx;subst hx;exact ht
 have:=ok.nM;show(s.marks++[t]).length≤_;rw[List.length_append,List.length_singleton];omega
variable {l:QD} {was:QM}
theorem XF{r:QN}(h:JV s r=(0,d,l)):Qy s was r=(0,{ s with d:=d,log:=l }):=by rw[Ym,h];rfl
variable {e:Nat}
theorem XE{r:QN}(h:JV s r=(e,d,l))(he:e≠0):Qy s was r=(e,{ was with d:=d,log:=l }):=by
 rw[Ym,h];cases e with
 |zero=>exact absurd rfl he
 |succ e=>rfl
theorem V5{r:QN}:(Qy s was r).1=(JV s r).1:=by
 rw[Ym];rcases JV s r with⟨e,d,l⟩;cases e<;>rfl
theorem Ej{base:Nat}(h:QO w base Sb s m)(ok:XA s)(t:List UInt8):
  Calls prog 18 #[.pointer (some ⟨Sb,0,none⟩),Qw t] w fun e w'=>Xy w w' base Sb m (KO s t) e:=by
 have HH:=Qa h;have HK:=Qa ok;have r:=h.lt;have a5:=h.blk.lt;have a7:(⟨t.toArray⟩:ByteArray).size=t.length:=by simp[ByteArray.size]
 have HX:=Qa (Qh.new w 28 #[.pointer (some ⟨Sb,0,none⟩)]);have b:Qb (Below w.heap.size w (w.alloc (.cells #[.pointer (some ⟨Sb,0,none⟩)] 28))):=bR.alloc nR _;obtain⟨q,hq⟩:=eX (KO s t);rw[←hq];have HQ:=Qa hq;clear h ok hq;by_cases ht:3000<t.length
 ·have a:q=(1,s):=by rw[HQ.o];unfold KO;rw[if_pos ht]
  subst a;have c0:=HX.o.cell 0;have xl:=HX.o.lt;have I:(t.length:Int)>3000:=by omega
  unfold Qw;go_enter func18,ntmps18;go_wp2_with fail;go_ret;exact⟨rfl,m,HH.o.below b.o,Qt.Qe b.o r⟩
 have I:¬((t.length:Int)>3000):=by omega
 unfold Qw;go_enter func18,ntmps18;go_upto_region 5 with fail;generalize w.alloc (.cells #[.pointer (some ⟨Sb,0,none⟩)] 28)=w1 at*
 have N:=b.o.size;have a4:base≤w1.heap.size:=Nat.le_trans r N;obtain⟨i9,y,v,C,x⟩:=info_parts Gk;have V:=HK.o.nM;obtain⟨n,hn⟩:=eX s.marks.length;rw[←hn]at V;have HN:=Qa hn;clear hn;have H1:=Qa (HH.o.below b.o)
 have SK:=@Qa (∀wy,Below w1.heap.size w1 wy→wy.cell? ⟨w.heap.size,0,none⟩=some (.pointer (some ⟨Sb,0,none⟩))∧wy.cell? ⟨Sb,6,none⟩=some (.slice m.A n m.c)) (fun wy hy=>by
  have hx:=HX.o.below hy HX.o.lt;have:=(H1.o.below hy).blk.cell 6;rw[HN.o];exact⟨hx.cell 0,this⟩)
 have BZ:Qb (Below w1.heap.size w1 (w1.alloc (.cells #[.string ⟨t.toArray⟩] 9)).drew):=(bR.alloc nR _).drew;obtain⟨d1,d2⟩:=SK.o _ bR.drew;obtain⟨d3,d4⟩:=SK.o _ BZ.o;have G:Qb ((w1.alloc (.cells #[.string ⟨t.toArray⟩] 9)).drew.ownsRow base 9 1 (.slice m.A n m.c) n (s.marks.map Qw)):=by
  have:=(H1.o.below BZ.o).Xk;show World.ownsRow _ _ _ _ _ _ _;rw[HN.o];exact this
 have F:Qb (Rd (w1.alloc (.cells #[.string ⟨t.toArray⟩] 9)).drew (w1.alloc (.cells #[.string ⟨t.toArray⟩] 9)).drew.heap.size 1 (some ⟨w1.heap.size,0,none⟩) 1 [Qw t]):=
  Kq (Sl.Ja (sz:=1) (n:=1) (xs:=[Qw t]) (Qh.new w1 9 #[Qw t]).drew rfl)
 have E:Qb (∀u∈([Qw t]:List Value),u.oneCell'=true):=by
  show ∀u∈([Qw t]:List Value),u.oneCell'=true;intro u hu;rw[List.mem_singleton]at hu;subst hu;rfl
 have z:=Qa (show ∀w4 A c,w4.ownsRow base 9 1 (.slice A (n+1) c) (n+1) (s.marks.map Qw++[Qw t])→(w1.alloc (.cells #[.string ⟨t.toArray⟩] 9)).drew.grownBy w4 (Value.slice m.A n m.c).ownBlock→((Value.slice A (n+1) c).ownBlock=(Value.slice m.A n m.c).ownBlock∨(Value.slice A (n+1) c).ownBlock=some (w1.alloc (.cells #[.string ⟨t.toArray⟩] 9)).drew.heap.size)→
   (QO (w4.setCell ⟨Sb,6,none⟩ (.slice A (n+1) c)) base Sb { s with marks:=s.marks++[t] } { m with A:=A,c:=c }∧Qt base m { m with A:=A,c:=c } w (w4.setCell ⟨Sb,6,none⟩ (.slice A (n+1) c))∧Qh (w4.setCell ⟨Sb,6,none⟩ (.slice A (n+1) c)) w.heap.size 28 #[.pointer (some ⟨Sb,0,none⟩)])∧w4.cell? ⟨Sb,6,none⟩=some (.slice m.A n m.c)∧w4.frozen? ⟨Sb,6,none⟩=false∧Sb<w4.heap.size∧w4.cell? ⟨w.heap.size,0,none⟩=some (.pointer (some ⟨Sb,0,none⟩))from fun w4 A c h1 h2 h3=>by
  have hz:=H1.o.below BZ.o;have hn:=HN.o;subst hn;obtain⟨g1,g2,g3,g4⟩:=hz.Cu h2 h1 h3;have hx:=(HX.o.below BZ.o HX.o.lt).keeps g3 (by decide);have a2:=(HX.o.below BZ.o HX.o.lt).keeps (Q7 hz.Xk h2 hz.lt) (by decide);exact⟨⟨g1,(Qt.Qe (m:=m) (b.o.trans (BZ.o.mono N)) r).trans g2,hx⟩,g4.cell 6,g4.free 6,g4.lt,a2.cell 0⟩)
 go_cut [4] (fun v4 wx=>v4=.int .i64 0∧∃A c,QO wx base Sb { s with marks:=s.marks++[t] } { m with A:=A,c:=c }∧Qt base m { m with A:=A,c:=c } w wx∧Qh wx w.heap.size 28 #[.pointer (some ⟨Sb,0,none⟩)])
 case first=>
  go_region_law (first
   |(refine Xc _ (by rfl) _ _ 33 (by rfl) base 9 i9 _ 1 16 ZI y v C x rfl (by decide) (.slice m.A n m.c) n (s.marks.map Qw) (by rfl) G.o (some ⟨w1.heap.size,0,none⟩) 1 1 _ [Qw t] (by rfl) F.o E.o (by unfold maxLen;omega) (by omega) (by simp;omega) ?_;intro A4 c4 w4 hown4 hgr4 hnc4 hob4;(obtain⟨g,y1,y2,y3,y4⟩:=z.o w4 A4 c4 hown4 hgr4 hob4);(have L:=Qa g);clear hown4 hgr4 hob4 g)
   |(go_simp;refine Xc _ (by rfl) _ _ 33 (by rfl) base 9 i9 _ 1 16 ZI y v C x rfl (by decide) (.slice m.A n m.c) n (s.marks.map Qw) (by rfl) G.o (some ⟨w1.heap.size,0,none⟩) 1 1 _ [Qw t] (by rfl) F.o E.o (by unfold maxLen;omega) (by omega) (by simp;omega) ?_;intro A4 c4 w4 hown4 hgr4 hnc4 hob4;(obtain⟨g,y1,y2,y3,y4⟩:=z.o w4 A4 c4 hown4 hgr4 hob4);(have L:=Qa g);clear hown4 hgr4 hob4 g))
  all_goals
   go_wp2_with fail;go_meet;exact⟨rfl,A4,c4,L.o⟩
 obtain⟨rfl,A4,c4,j,T,p⟩:=hcut;have J:=Qa j;have M:=Qa T;have f:=Qa p;have a1:=j.lt;have a3:=j.blk.lt;have U:=p.lt;obtain⟨X,hX⟩:=eX w.heap.size;rw[←hX]at f U ⊢;clear hX d1 d2 d3 d4 G F E z BZ SK j T p H1 HN y v C x;have D:=Qa (fun wy=>VA (w:=wy) 77 t)
 have k:=@Qa (∀wy A c,Below wc.heap.size wc wy→Kb wy A t→t.length≤c→Calls prog 70 #[.pointer (some ⟨Sb,0,none⟩),.agg #[.int .u8 77,.slice A t.length c],.func (.func 72) #[] #[.pointer (some ⟨X,0,none⟩)]] wy fun e w'=>e=.returned (.int .i64 (Qy { s with marks:=s.marks++[t] } s (77,t)).1)∧∃m',QO w' base Sb (Qy { s with marks:=s.marks++[t] } s (77,t)).2 m'∧Qt base m m' w w'∧Qh w' X 28 #[.pointer (some ⟨Sb,0,none⟩)]) (fun wy A c hy hby hc=>by
  have hh:=J.o.below hy;have W:=HK.o.marked (t:=t) (by omega);have hx:=f.o.below hy f.o.lt;have O:=M.o.trans (Qt.Qe (m:={ m with A:=A4,c:=c4 }) hy a1);have a8:=HK.o.nN;have a9:=HK.o.nS;have a6:=HK.o.nM
  have:=Xz hh W (by have:=HK.o.wt;show s.d.waits.length≤_;omega) (by have:=HK.o.ep;show s.log.epoch+2<_;omega) HK.o.at' HK.o.D8 (77,t) (by show 77<256;decide) (by show t.length<_;omega) A c hby hc
   (by rw[Vd,List.length_append,List.length_append,List.length_map,List.length_map,List.length_map];show s.notes.length+s.Qc.length+(s.marks++[t]).length≤_;rw[List.length_append,List.length_singleton];omega)
   72 #[.pointer (some ⟨X,0,none⟩)] (fun _ _=>rfl)
   (fun w'=>∃m',QO w' base Sb (Qy { s with marks:=s.marks++[t] } s (77,t)).2 m'∧Qt base m m' w w'∧Qh w' X 28 #[.pointer (some ⟨Sb,0,none⟩)])
   (fun w' d l hd hk hs=>by
    rw[XF hd];exact⟨_,hs,O.trans (Qt.of hk (by simp)),hx.keeps hk (by decide)⟩)
   (fun wz e d l hd he hk hs=>by
    rw[XE hd he];have S:=hx.keeps hk (by decide);refine(PL (s:={ s with d:=d,log:=l }) hs S (by show s.marks.length<_;omega)).mono ?_;rintro en w' ⟨h1,m',h2,h3⟩;exact⟨h1,m',h2,(O.trans (Qt.of hk (by simp))).trans h3,h3.blk hs S (by decide) (by decide)⟩)
  rw[←V5 (was:=s)]at this;exact this)
 have i:=@Qa (∀wy,Below wc.heap.size wc wy→wy.cell? ⟨X,0,none⟩=some (.pointer (some ⟨Sb,0,none⟩))) (fun wy hy=>(f.o.below hy f.o.lt).cell 0);have S0:=Qa (i.o _ bR.drew)
 have a:q=match Qy { s with marks:=s.marks++[t] } s (77,t)with
   |(0,s1)=>Vr s1
   |(e,s1)=>(e,s1):=by rw[HQ.o];unfold KO;rw[if_neg ht];rfl
 obtain⟨lg,hlg⟩:∃lg,lg=Qy { s with marks:=s.marks++[t] } s (77,t):=⟨_,rfl⟩;rw[←hlg]at a k;clear hlg HQ J M ht I;obtain⟨er,s6⟩:=lg;have HQ:=Qa a;clear a;go_upto_region 6 with fail;go_cut [5] (fun v5 wx=>v5=.int .i64 er∧∃m',QO wx base Sb s6 m'∧Qt base m m' w wx∧Qh wx X 28 #[.pointer (some ⟨Sb,0,none⟩)])
 case first=>
  go_region_held3 (fun wy=>wy.cell? ⟨X,0,none⟩=some (.pointer (some ⟨Sb,0,none⟩)))
   (first|exact S0.o|exact S7.o|exact i.o _ R.o)
   (first
    |(go_at_call 71;refine(D.o _).mono ?_;rintro en w6 ⟨⟨A6,c6,rfl,K,H⟩,P⟩;(have Z:=Qa K);(have a0:=Qa H);(have R:Qb (Below wc.heap.size wc w6):=bR.drew.trans P);clear K H P)
    |(go_at_call 70;refine(k.o _ _ _ R.o Z.o a0.o).mono ?_;rintro en w7 ⟨rfl,m7,h7,k7,x7⟩;(have H7:Qb (∃m',QO w7 base Sb s6 m'∧Qt base m m' w w7∧Qh w7 X 28 #[.pointer (some ⟨Sb,0,none⟩)]):=⟨m7,h7,k7,x7⟩);(have S7:=Qa (x7.cell 0));clear h7 k7 x7))
  all_goals
   go_wp2_with fail;go_meet;exact⟨rfl,H7.o⟩
 obtain⟨rfl,m7,h7,k7,x7⟩:=hcut;have H7:=Qa h7;have K7:=Qa k7;by_cases he:er=0
 ·subst he;have B:q=((Q4 s6.d).1,{ s6 with d:=(Q4 s6.d).2 }):=HQ.o;subst B;have x0:wc.cell? ⟨X,0,none⟩=some (.pointer (some ⟨Sb,0,none⟩)):=x7.cell 0;have x2:wc.cell? ⟨Sb,2,none⟩=some (.pointer (some ⟨m7.Lb,0,none⟩)):=h7.blk.cell 2;have xl:=x7.lt;have sl:=h7.blk.lt;have Y:=Qa (IA h7.log h7.Ul);have hz:=XW s6.d;clear h7 k7 x7 k D i S0;go_wp2_with (go_at_call 73;refine Y.o.mono ?_;rintro en w8 ⟨rfl,hd,hk⟩;(have HD:=Qa hd);(have Q:=Qa hk);clear hd hk);go_ret;have k5:=Q.o.mono nR (ts':=[121,165,167,216,137]) (by simp);exact⟨rfl,m7,H7.o.YG k5 HD.o (H7.o.log.keeps Q.o (by decide) (by decide) (by decide)) hz,K7.o.trans (Qt.of k5 (by simp))⟩
 have aa:((er:Int) != 0)=true:=by simp;omega
 have B:q=(er,s6):=by
  rw[HQ.o];cases er with
  |zero=>exact absurd rfl he
  |succ e=>rfl
 subst B;clear he h7 k7 x7 k D i S0;go_wp2_with fail;go_ret;exact⟨rfl,m7,H7.o,K7.o⟩
end
theorem ZW{κ α:Type}[DecidableEq κ](x:κ):∀(a b:List (κ × α)),QC (a++b) x=(QC a x).or (QC b x)
 |[],b=>by simp[Y1]
 |(k,v)::a,b=>by
  rw[List.cons_append,Jd,Jd,ZW x a b];by_cases h:x=k<;>simp[h]
theorem Nz{κ α:Type}[DecidableEq κ]{x:κ}{l:List (κ × α)}(h:x∉l.map (·.1)):QC l x=none:=by
 cases hg:QC l x with
 |none=>rfl
 |some v=>exact absurd (KD.1 (by rw[hg];rfl)) h
theorem Ni{κ α:Type}[DecidableEq κ]{a b:List (κ × α)}{n:κ}{x:α}(hn:((a++(n,x)::b).map (·.1)).Nodup)(y:κ):QC (a++b) y=if y=n then none else QC (a++(n,x)::b) y:=by
 rw[List.map_append,List.map_cons,List.nodup_append]at hn;obtain⟨h1,h2,h3⟩:=hn;rw[List.nodup_cons]at h2;rw[ZW,ZW,Jd];by_cases e:y=n
 ·subst e;rw[if_pos rfl];rw[Nz (l:=a) (fun hh=>h3 y hh y List.mem_cons_self rfl),Nz h2.1];rfl
 simp[e]
structure KS (d1:Qq) (all:List (Qj × Qx)) (mp:Jt) (sl:List (Qj × Qx)) (lo N k:Nat) (kept:List (Qj × Qx)) (mj:Jt):Prop where
 sub:kept.Sublist (all.take k)
 inv:JC mj lo N
 go:∃r,Kg d1 (all.drop k) mj=(0,r,mp)∧sl=kept++r
theorem KS.start{d1:Qq}{all sl:List (Qj × Qx)}{mp m0:Jt}{lo N:Nat}(h:Kg d1 all m0=(0,sl,mp))(hi:JC m0 lo N):KS d1 all mp sl lo N 0 [] m0:=
 ⟨List.nil_sublist _,hi,sl,h,rfl⟩
section
variable {d1:Qq} {all sl kept:List (Qj × Qx)} {mp mj:Jt} {lo N k:Nat} {n:Qj} {x:Qx}
theorem KS.PX(h:KS d1 all mp sl lo N k kept mj):(kept++all.drop k).Sublist all:=by
 have:=h.sub.append (List.Sublist.refl (all.drop k));rwa [List.take_append_drop]at this
theorem KS.Iq(h:KS d1 all mp sl lo N k kept mj)(hs:Xa all):Xa (kept++all.drop k):=List.Pairwise.sublist h.PX hs
theorem KS.num(h:KS d1 all mp sl lo N k kept mj){P:Qj × Qx→Prop}(hp:∀y∈all,P y):∀y∈kept++all.drop k,P y:=fun y hy=>hp y (h.PX.mem hy)
theorem Pj(hk:k<all.length)(hx:all[k]=(n,x)):all.drop k=(n,x)::all.drop (k+1):=by rw[List.drop_eq_getElem_cons hk,hx]
theorem KS.keep(h:KS d1 all mp sl lo N k kept mj)(hk:k<all.length)(hx:all[k]=(n,x))(h0:0≤x.at')(h10:(Jj d1 x).1≠10)(ht:(Jj d1 x).1=0)(hc:(KA mj x.at'.toNat x.len).1=0):
  KS d1 all mp sl lo N (k+1) (kept++[(n,x)]) (KA mj x.at'.toNat x.len).2:=by
 obtain⟨r,hr,a⟩:=h.go;rw[Pj hk hx,OS d1 n x _ mj h0 h10,if_pos ⟨ht,hc⟩]at hr;rcases hq:Kg d1 (all.drop (k+1)) (KA mj x.at'.toNat x.len).2 with⟨e,r',m'⟩;rw[hq]at hr;injection hr with h1 hr;injection hr with h2 h3;subst h1;subst h3;refine⟨?_,MJ h.inv,r',hq,by rw[a,←h2,List.append_assoc];rfl⟩;rw[List.take_succ_eq_append_getElem hk,hx];exact h.sub.append (List.Sublist.refl _)
theorem KS.skip(h:KS d1 all mp sl lo N k kept mj)(hk:k<all.length)(hx:all[k]=(n,x))(h0:0≤x.at')(h10:(Jj d1 x).1≠10)(hn:¬((Jj d1 x).1=0∧(KA mj x.at'.toNat x.len).1=0)):
  KS d1 all mp sl lo N (k+1) kept mj:=by
 obtain⟨r,hr,a⟩:=h.go;rw[Pj hk hx,OS d1 n x _ mj h0 h10,if_neg hn]at hr;refine⟨?_,h.inv,r,hr,a⟩;rw[List.take_succ_eq_append_getElem hk];exact h.sub.trans (List.sublist_append_left _ _)
theorem KS.ended(h:KS d1 all mp sl lo N k kept mj)(hk:all.length≤k):kept=sl∧mj=mp:=by
 obtain⟨r,hr,a⟩:=h.go;rw[List.drop_eq_nil_of_le hk]at hr;unfold Kg at hr;injection hr with _ hr;injection hr with h1 h2;subst h1;exact⟨by rw[a,List.append_nil],h2⟩
end
theorem SF{q n:Nat}(h:q≤n):JC ⟨q,n-q,if 0<n-q then[(q,n-q)]else[]⟩ q n:=by
 refine⟨rfl,rfl,h, ?_, ?_⟩
 ·split
  ·exact⟨List.pairwise_singleton _ _,fun e he=>by rw[List.mem_singleton]at he;subst he;simp only;omega⟩
  exact⟨List.Pairwise.nil,fun e he=>by cases he⟩
 intro e he;split at he
 ·rw[List.mem_singleton]at he;subst he;simp only;omega
 cases he
section
open Go.Shelf Go.Sort
abbrev EF:List TypeId:=[121,165,167,216,137,129,220,1000000]
def DI(w w':World)(base B:Nat)(s:QM)(e:Ending):Prop:=∃Sb m,e=.returned (.tuple #[.pointer (some ⟨Sb,0,none⟩),.int .i64 0])∧m.B=B∧QO w' base Sb s m∧Qd base [121,165,167,216,137,129,220,1000000] w w'
variable {M base':Nat} {w:World}
theorem KL.base{base:Nat}{m:Jt}(h:KL w base M m)(hb:base'≤base):KL w base' M m:=by
 exact { h with low:=Nat.le_trans hb h.low }
variable {Sb:Nat} {m:KY}
theorem QO.Uy{base:Nat}(h:QO w base Sb s m)(n:Qj)(hn:TQ n)(l':List (Qj × Qx))(hl:∀y,QC l' y=if y=n then none else QC s.Qc y)(hs:Xa l')(hr:∀x∈l',Kf x∧x.2.len≤1048576):
  ∃w',(Builtin.delete_ #[125,73] 0 #[.map (some m.Pb),QZ n]).run prog w=.ok (.tuple #[]) w'∧QO w' base Sb { s with Qc:=l' } m∧Qt base m m w w'∧Qd base [1000000] w w'∧w.mapTurned w' m.Pb:=by
 obtain⟨w',b,c,a⟩:=h.pmap.drop hn 0;obtain⟨h1,h2⟩:=h.sliced a (c.congr fun y _=>hl y) hs hr;exact⟨w',b,h1,h2,KV.YT a h.Iw h.lt,a⟩
attribute [local go_sem ↓] XN
variable {B:Nat}
theorem RB{base:Nat}{sl:List (Qj × Qx)}(hD:VK w base B d)(ht:XX base w)(hb2:2<base)(hg:YN d d1 l1 sl mp d2 l2):
  Calls prog 16 #[.pointer (some ⟨B,0,none⟩)] w fun e w'=>DI w w' base B (KI d d1 l1 sl mp d2 l2) e:=by
 have dC:16≤d.size∧d.size≤4096:=by obtain⟨m,h⟩:=hD;exact h.sz
 have cz:d.Qk.length≤65536:=by obtain⟨m,h⟩:=hD;exact h.n1.2
 have bb:base≤w.heap.size:=by obtain⟨m,h⟩:=hD;have:=h.low.1;have:=h.blk.lt;omega
 have HD:=Qa hD;have HT:=Qa ht;have HG:=Qa hg;have bL:=hg.q4;have di:=hg.n0;have aE:=hg.nd;have bn:=@Qa (∀wy,Below w.heap.size w wy→Calls prog 55 #[.pointer (some ⟨B,0,none⟩)] wy fun e w'=>e=.returned (.tuple #[.int .i64 d.Qk.length,.int .i64 d.size])∧Below wy.heap.size wy w') (fun wy hy=>Kk (hD.below hy));have bz:=@Qa (∀wy,Calls prog 56 #[.int .i64 d.size,.int .i64 201] wy fun e w'=>e=.returned (.int .i64 (Qf d.size 201:Nat))∧wy=w') (fun wy=>JP d.size 201 (by omega) (by omega) wy);have bl:=@Qa (∀wy,Calls prog 56 #[.int .i64 d.size,.int .i64 0] wy fun e w'=>e=.returned (.int .i64 (Qf d.size 0:Nat))∧wy=w') (fun wy=>JP d.size 0 (by omega) (by omega) wy);clear hD ht hg;obtain⟨q,hq⟩:=eX (d.Qk.length/4);obtain⟨n,hn⟩:=eX d.Qk.length;have HQ:=Qa hq;have HN:=Qa hn;rw[←hq]at bL aE;rw[←hn]at bn cz;have dD:(n:Int)/4=(q:Int):=by omega
 obtain⟨N1,c5⟩:=eX (Qf d.size 201);obtain⟨N0,cB⟩:=eX (Qf d.size 0);rw[←c5]at bz di aE;rw[←cB]at bl aE;have cL:q≤n:=by omega
 clear hq hn c5 cB;have i1:decide ((q:Int)<4)=false:=decide_eq_false (by omega);have i2:((N1:Int)==0)=false:=by simp;omega
 obtain⟨hf,bD⟩:=eX (q/2);have d0:(q:Int)/2=(hf:Int):=by omega
 rw[←bD]at aE;have i3:decide ((hf:Int)-(N0:Int)<(N1:Int))=false:=decide_eq_false (by omega);have i4:IntKind.i64.wrap ((hf:Int)-(N0:Int))=(hf:Int)-(N0:Int):=by rw[IntKind.wrap_i64];omega
 have dE:hf≤65536:=by omega
 clear bD;go_enter func16,ntmps16;go_upto_region 3 with(go_at_call 55;refine(bn.o _ bR).mono ?_;rintro en w1 ⟨rfl,b6⟩;(have bV:=Qa b6);(have cf:=b6.size);clear b6)
 go_upto_region 6 with(first
  |((fail_if_success (have:=RR));go_at_call 56;refine(bz.o _).mono ?_;rintro en w' ⟨rfl,rfl⟩;(have RR:=@Qa (True) (trivial)))
  |(go_at_call 56;refine(bl.o _).mono ?_;rintro en w' ⟨rfl,rfl⟩))
 clear RR i1 i2 i3 i4 d0 bz bl bn;have au:=@run_makeMap prog;go_upto_region 8 with fail;clear au;obtain⟨w3,a0⟩:=eX (((w1.alloc (.map #[] 0)).alloc (.map #[] 0)).alloc (.cells #[.pointer (some ⟨B,0,none⟩),.int .i64 d.size,.pointer none,.pointer none,.map (some w1.heap.size),.map (some (w1.heap.size+1)),.slice none 0 0,.int .i64 0,.int .i64 0] 129));rw[←a0];have p:Qb (Below w.heap.size w w3):=by
  show Below w.heap.size w w3;rw[a0];exact((bV.o.alloc cf _).alloc (by simp;omega) _).alloc (by simp;omega) _
 have I:Qb (Qh w3 (w1.heap.size+1+1) 129 #[.pointer (some ⟨B,0,none⟩),.int .i64 d.size,.pointer none,.pointer none,.map (some w1.heap.size),.map (some (w1.heap.size+1)),.slice none 0 0,.int .i64 0,.int .i64 0]):=by
  show Qh w3 _ 129 _;rw[a0];exact Qh.Qz (by simp)
 have ad:Below (w1.alloc (.map #[] 0)).heap.size (w1.alloc (.map #[] 0)) w3:=by
  rw[a0];exact(bR.alloc nR _).alloc (by simp) _
 have a4:Below ((w1.alloc (.map #[] 0)).alloc (.map #[] 0)).heap.size ((w1.alloc (.map #[] 0)).alloc (.map #[] 0)) w3:=by
  rw[a0];exact bR.alloc nR _
 have bd:=Qa ((KV.made NK w1).below ad);have ax:=Qa ((KV.made SK (w1.alloc (.map #[] 0))).below a4);rw[show(w1.alloc (.map #[] 0)).heap.size=w1.heap.size+1 from by simp]at ax;clear ad a4 a0;obtain⟨Sb,cw⟩:=eX (w1.heap.size+1+1);obtain⟨Pb,ca⟩:=eX (w1.heap.size+1);obtain⟨Nb,cI⟩:=eX w1.heap.size;have dv:w.heap.size≤Sb:=by omega
 have dm:w.heap.size≤Pb:=by omega
 have dw:w.heap.size≤Nb:=by omega
 have d7:Nb≠Pb:=by omega
 rw[←cw]at I ⊢;rw[←ca]at I ax ⊢;rw[←cI]at I bd ⊢;clear cw ca cI bV cf;have bZ:=p.o.size;have bN:base≤w3.heap.size:=by omega
 have cg:=@Qa (Calls prog 57 #[.pointer (some ⟨B,0,none⟩),.int .i64 0,.int .i64 q] w3 fun e w'=>∃Lb,e=.returned (.tuple #[.pointer (some ⟨Lb,0,none⟩),.int .i64 0])∧Yw w' base Lb B l1∧VK w' base B d1∧Qd base [121,165,167,216,137] w3 w') (by
  obtain⟨E,hE,hF⟩:=HG.o.Cc;have:=FF (HD.o.below p.o) (HT.o.below (p.o.mono bb)).steps hb2 hF (by omega) (by have:=HG.o.wt;omega) HG.o.Bz q bL (by rw[←HN.o];exact cL);rw[HQ.o,HG.o.ol,←HQ.o]at this;refine this.mono ?_;rintro e w' ⟨h1,h2,h3⟩;rcases h1 with⟨_,Lb,h4,h5⟩|⟨h4,_⟩
  ·exact⟨Lb,h4,h5,h2,h3⟩
  exact absurd rfl h4)
 go_upto_region 9 with(go_at_call 57;refine cg.o.mono ?_;rintro en w4 ⟨Lb,rfl,bA,c2,K⟩;(have cr:=Qa bA);(have cv:=Qa c2);(have H:=Qa K);(have bE:=(I.o.keeps K (by decide)).lt);(have co:=(I.o.keeps K (by decide)).free 2);(have cn:w4.cell? ⟨Sb,2,none⟩=some (.pointer none):=(I.o.keeps K (by decide)).cell 2);clear bA c2 K);have N:=I.o.keeps H.o (by decide);have s5:Qh (w4.setCell ⟨Sb,2,none⟩ (.pointer (some ⟨Lb,0,none⟩))) Sb 129 #[.pointer (some ⟨B,0,none⟩),.int .i64 d.size,.pointer (some ⟨Lb,0,none⟩),.pointer none,.map (some Nb),.map (some Pb),.slice none 0 0,.int .i64 0,.int .i64 0]:=by
  have:=N.set 2 (.pointer (some ⟨Lb,0,none⟩));simpa using this
 have k5:=(Qd.refl base [129] w4).set (o:=2) N (by omega) (by simp) (.pointer (some ⟨Lb,0,none⟩));have D:=Qa s5;have cq:=Qa (cr.o.keeps k5 (by decide) (by decide) (by decide));have bP:=Qa (cv.o.keeps k5 (by decide) (by decide) (by decide) (by decide) (by decide));have aK:=Qa ((bd.o.keeps H.o (by decide)).keeps k5 (by decide));have aR:=Qa ((ax.o.keeps H.o (by decide)).keeps k5 (by decide));have aq:=Qa (((Qd.Qe (base:=base) (ts:=EF) (p.o.mono nR) bb).trans (H.o.mono nR (by simp))).trans (k5.mono nR (by simp)));clear N s5 k5 bE co cn I bd ax p bZ bN cr cv H cg;generalize w4.setCell ⟨Sb,2,none⟩ (.pointer (some ⟨Lb,0,none⟩))=w5 at*
 obtain⟨r,hr⟩:=eX (n-q);have cT:(n:Int)-(q:Int)=(r:Int):=by omega
 have HR:=Qa hr;have dA:r≤65536:=by omega
 have ai:base≤w5.heap.size:=Nat.le_trans bb aq.o.below.size;have bU:=Qa (LO q r (by omega) (by omega) w5);clear hr;go_upto_region 12 with(go_at_call 58;refine bU.o.mono ?_;rintro en w6 ⟨⟨M,rfl,c6⟩,z⟩;(have cj:=Qa c6);(have bp:=Qa z);(have cO:=(D.o.below z D.o.lt).lt);(have cA:=(D.o.below z D.o.lt).free 3);(have ce:w6.cell? ⟨Sb,3,none⟩=some (.pointer none):=(D.o.below z D.o.lt).cell 3);clear c6 z);have z:=D.o.below bp.o D.o.lt;have s7:Qh (w6.setCell ⟨Sb,3,none⟩ (.pointer (some ⟨M,0,none⟩))) Sb 129 #[.pointer (some ⟨B,0,none⟩),.int .i64 d.size,.pointer (some ⟨Lb,0,none⟩),.pointer (some ⟨M,0,none⟩),.map (some Nb),.map (some Pb),.slice none 0 0,.int .i64 0,.int .i64 0]:=by
  have:=z.set 3 (.pointer (some ⟨M,0,none⟩));simpa using this
 have k7:=(Qd.Qe (base:=base) (ts:=[129]) bp.o ai).trans ((Qd.refl base [129] w6).set (o:=3) z (by omega) (by simp) (.pointer (some ⟨M,0,none⟩)));have bF:=((Qd.refl base [129] w6).set (o:=3) z (by omega) (by simp) (.pointer (some ⟨M,0,none⟩)));have aI:=Qa (cq.o.keeps k7 (by decide) (by decide) (by decide));have bk:=Qa (aq.o.trans (k7.mono nR (by simp)));have a2:Qb (QO (w6.setCell ⟨Sb,3,none⟩ (.pointer (some ⟨M,0,none⟩))) base Sb (Kh d1 l1 q n) ⟨Lb,B,M,Nb,Pb,none,0⟩):=by
  refine⟨by omega, ?_,bP.o.keeps k7 (by decide) (by decide) (by decide) (by decide) (by decide),aI.o.w, ?_,(aK.o.keeps k7 (by decide)).congr (fun x _=>Y1 x),by show base≤Nb;omega,(aR.o.keeps k7 (by decide)).congr (fun x _=>Y1 x),by show base≤Pb;omega,d7,Zs _ _ _ _,HT.o.below bk.o.below,hb2⟩
  ·have e:=HG.o.Bd;show Qh _ Sb 129 #[.pointer (some ⟨B,0,none⟩),.int .i64 d1.size,.pointer (some ⟨Lb,0,none⟩),.pointer (some ⟨M,0,none⟩),.map (some Nb),.map (some Pb),.slice none 0 0,.int .i64 0,.int .i64 0];rw[e];exact s7
  have:=(cj.o.base ai).keeps bF (by decide) (by decide);rw[HR.o]at this;exact this
 clear z s7 k7 bF cO cA ce D cq bP aK aR aq ai cj bp bU cT;generalize w6.setCell ⟨Sb,3,none⟩ (.pointer (some ⟨M,0,none⟩))=w7 at*
 have an:=a2.o.lt;have aZ:=Qa (Dj aI.o);have e2:w7.cell? ⟨Sb,2,none⟩=some (.pointer (some ⟨Lb,0,none⟩)):=a2.o.blk.cell 2;have d9:=a2.o.blk.lt;go_wp2_with (go_at_call 59;refine aZ.o.mono ?_;rintro en w8 ⟨L,hL,⟨L',A',c',rfl,bS,bu,aY,dF⟩,c8⟩;(have cY:=Qa bS);(have cG:=Qa aY);(have cP:=Qa (bu.trans hL));(have aa:=Qa c8);(have ci:L'.length=L.length:=by have:=congrArg List.length bu;simpa using this);clear bS aY hL bu c8);have b3:L.length=l1.Qo.length:=by rw[←ci,←cP.o,List.length_map]
 have ds:L.length≤100000:=by rw[b3];exact HG.o.Yp
 have b1:=Qa b3;have aT:=Qa ci;have dp:base≤w8.heap.size:=Nat.le_trans an aa.o.size
 have aO:=Qa (show ∀(k:Nat)(wr:World)(A:Option Addr)(c:Nat)(x:QN),l1.Qo[k]? =some x→QO wr base Sb ((l1.Qo.take k).foldl Zf (Kh d1 l1 q n)) ⟨Lb,B,M,Nb,Pb,none,0⟩→Kb wr A x.2→
   Calls prog 60 #[.pointer (some ⟨Sb,0,none⟩),.agg #[.int .u8 x.1,.slice A x.2.length c]] wr fun e w'=>e=.returned (.tuple #[])∧QO w' base Sb ((l1.Qo.take (k+1)).foldl Zf (Kh d1 l1 q n)) ⟨Lb,B,M,Nb,Pb,none,0⟩∧Qd base [1000000] wr w' from fun k wr A c x hx s hby=>by
  obtain⟨hk,cQ⟩:=List.getElem?_eq_some_iff.1 hx;have hh:=HG.o.EE k;rw[←HQ.o,←HN.o]at hh;have dB:(l1.Qo.take k).length≤100000:=by rw[List.length_take];have:=HG.o.Yp;omega
  obtain⟨y,hy⟩:=HG.o.Qo x (by rw[←cQ];exact List.getElem_mem hk);have:=ED s hh.Iq hh.num (by have:=hh.len;omega) x y hy A c hby;rw[List.take_succ_eq_append_getElem hk,List.foldl_append,cQ];exact this)
 clear b3;have aW:=Qa (a2.o.below aa.o);have ar:=Qa (bk.o.trans (Qd.Qe (base:=base) (ts:=EF) aa.o an));have dz:=Qa (aI.o.below aa.o);clear a2 bk aI aa aZ an e2 d9;go_loopw [84] (fun i wr=>∃k:Nat,k≤L.length∧i=.int .i64 k∧QO wr base Sb ((l1.Qo.take k).foldl Zf (Kh d1 l1 q n)) ⟨Lb,B,M,Nb,Pb,none,0⟩∧Qd base [1000000] w8 wr) (fun i _=>L.length-(intOf i).toNat)
 case atStart=>exact⟨0,Nat.zero_le _,rfl,aW.o,Qd.refl _ _ _⟩
 obtain⟨k,hk,rfl,s,a5⟩:=hrel;have l:=Qa s;have bj:=Qa a5;by_cases hkl:k<L.length
 ·have aj:(k:Int)<L.length:=by omega
  have bw:k<L'.length:=by rw[aT.o];exact hkl
  obtain⟨b,o,hA,b5,c0,c1⟩:=((Sl.Jl cY.o).keeps a5 (by decide)).Dg k bw (by rw[aT.o]);obtain⟨y1,y2,y3,y4⟩:=(cG.o.keeps a5 (by decide)) (L'[k]) (List.getElem_mem _);have bg:l1.Qo[k]? =some L'[k].1:=by
   rw[←cP.o,List.getElem?_map,List.getElem?_eq_getElem bw];rfl
  subst hA;clear s a5;generalize L'[k]=x at*
  obtain⟨⟨kd,F⟩,Bx,cb⟩:=x;simp only at y1 y2 y3 y4 c0 c1 bg;have cW:=Qa y1;have dg:=Qa bg;clear y1 y2 y3 y4 bg bw;go_upto_region 17 with fail;have O:Qb (Below wr.heap.size wr (wr.alloc (.cells #[.int .u8 kd,.slice Bx F.length cb] 137))):=bR.alloc nR _;have u:=Qa (Qh.new wr 137 #[.int .u8 kd,.slice Bx F.length cb]);have dj:=l.o.lt;generalize wr.alloc (.cells #[.int .u8 kd,.slice Bx F.length cb] 137)=w2 at*
  have x0:w2.cell? ⟨wr.heap.size,0,none⟩=some (.int .u8 kd):=u.o.cell 0;have x1:w2.cell? ⟨wr.heap.size,1,none⟩=some (.slice Bx F.length cb):=u.o.cell 1;have xl:=u.o.lt;clear c0 c1 b5;go_wp2_with (go_at_call 60;refine(aO.o k w2 Bx cb (kd,F) dg.o (l.o.below O.o) (cW.o.below O.o)).mono ?_;rintro en w3 ⟨rfl,h3,k3⟩;(have H3:=Qa h3);(have K3:=Qa k3);clear h3 k3);go_roundw
  case rel=>exact⟨k+1,by omega,by simp,H3.o,(bj.o.trans (Qd.Qe O.o dj)).trans K3.o⟩
  case measure=>simp[intOf];omega
 obtain rfl:k=L.length:=by omega
 have aj:¬(L.length:Int)<L.length:=by omega
 clear s a5;have bi:l1.Qo.take L.length=l1.Qo:=by rw[b1.o,List.take_length]
 have l:=@Qa (QO wr base Sb (Vu d1 l1 q n) ⟨Lb,B,M,Nb,Pb,none,0⟩) (by
  have:=l.o;rw[bi]at this;exact this)
 have hh:=HG.o.EE L.length;rw[←HQ.o,←HN.o,bi]at hh;have aC:=HG.o.cl;rw[←HQ.o,←HN.o]at aC;have aB:Vu d1 l1 q n={ Kh d1 l1 q n with Qc:=(Vu d1 l1 q n).Qc }:=hh.eq;have bK:(Vu d1 l1 q n).map=(Kh d1 l1 q n).map:=by rw[aB]
 rw[bK]at aC;have a9:Xa (Vu d1 l1 q n).Qc:=hh.Iq;have j:∀x∈(Vu d1 l1 q n).Qc,Kf x∧x.2.len≤1048576:=hh.num;have cX:(Vu d1 l1 q n).Qc.length≤L.length:=by
  have:=hh.len;rw[b1.o,List.take_length]at*
  show(l1.Qo.foldl Zf (Kh d1 l1 q n)).Qc.length≤_;omega
 rw[aB]at l;have b9:=Qa aB;clear hh bK aB;generalize (Vu d1 l1 q n).Qc=all at*
 have ch:=Qa (KS.start aC (SF cL));have U:=Qa a9;have S:=Qa j;have T:=Qa (Ow l.o a9 j (by show all.length≤_;omega));have cM:=Qa (ar.o.trans (bj.o.mono nR (ts':=EF) (by simp)));have al:=l.o.lt;clear a9 j aC bj aO aW ar bi;obtain⟨na,ay⟩:=eX all.length;have ap:=Qa ay;replace T:Qb (Calls prog 35 #[.pointer (some ⟨Sb,0,none⟩)] wr fun e w'=>∃A c,e=.returned (.slice A na c)∧w'.ownsRow wr.heap.size 73 2 (.slice A na c) na (QV (all.map (·.1)))∧Below wr.heap.size wr w'):=by
  have:=T.o;show Calls prog 35 _ _ _;rw[ay];exact this
 rw[←ay]at cX;clear ay;go_wp2_with (go_at_call 35;refine T.o.mono ?_;rintro en w9 ⟨A9,c9,rfl,cN,cc⟩;(have bG:=Qa cN);(have aF:=Qa cc);clear cN cc);have dh:=aF.o.size;have aV:=Qa (l.o.below aF.o);have cE:=Qa (cM.o.trans (Qd.Qe (base:=base) (ts:=EF) aF.o al));have dn:base≤w9.heap.size:=Nat.le_trans al dh;have dx:base≤wr.heap.size:=al;clear l cM aF T;go_loopw [95] (fun i wq=>∃(k:Nat) (f:List (Qj × Qx)) (mj:Jt),k≤na∧i=.int .i64 k∧KS d1 all mp sl q n k f mj∧QO wq base Sb { Kh d1 l1 q n with Qc:=f++all.drop k,map:=mj } ⟨Lb,B,M,Nb,Pb,none,0⟩∧Qd base [220,1000000] w9 wq) (fun i _=>na-(intOf i).toNat)
 case atStart=>exact⟨0,[],_,Nat.zero_le _,rfl,ch.o,aV.o,Qd.refl _ _ _⟩
 obtain⟨k,f,mj,hk,rfl,br,s,ag⟩:=hrel;have C:=Qa br;have t:=Qa s;have bt:=Qa ag;have aw:=s.lt;by_cases hkl:k<na
 ·have aj:(k:Int)<na:=by omega
  have X:k<all.length:=by rw[←ap.o];exact hkl
  obtain⟨b,o,hA,b5,c0,c1⟩:=Re ((Sl.Jl bG.o).keeps ag (by decide)) k (by rw[List.length_map];exact X) (by rw[List.length_map];exact ap.o);have e1:(all.map (·.1))[k]'(by rw[List.length_map];exact X)=all[k].1:=by simp
  rw[e1]at c0 c1;have bo:l1.Qo≠[]:=by
   intro h0;have:L.length=0:=by rw[b1.o,h0];rfl
   omega
  obtain⟨E1,d6⟩:=HG.o.Ba bo;have V:=HG.o.BC bo all[k].2;have j:=S.o _ (List.getElem_mem X);obtain⟨y,hy⟩:∃y,all[k]=y:=⟨_,rfl⟩;have HY:=Qa hy;rw[hy]at c0 c1 V j;subst hA;clear e1 s ag br bo hy;obtain⟨⟨n1,n2⟩,x⟩:=y;simp only at c0 c1 V j;have dc:=j.1.2.2.1;have dl:=j.2;obtain⟨at',len,g,mk⟩:=x;simp only at dc dl V;obtain⟨a,rfl⟩:∃a:Nat,at'=a:=⟨at'.toNat,by omega⟩;have ck:TQ (n1,n2):=⟨Q8 j.1.1,Q8 j.1.2.1⟩;have az:=Pj X HY.o;have ah:((f++((n1,n2),(⟨a,len,g,mk⟩:Qx))::all.drop (k+1)).map (·.1)).Nodup:=by rw[←az];exact(C.o.Iq U.o).nodup
  have bT:QC (f++all.drop k) (n1,n2)=some ⟨a,len,g,mk⟩:=by
   rw[az];exact VX ah (by simp)
  have b8:=@Qa (∀wy,Qd base [220,1000000] wr wy→QO wy base Sb { Kh d1 l1 q n with Qc:=f++all.drop k,map:=mj } ⟨Lb,B,M,Nb,Pb,none,0⟩→Calls prog 61 #[.pointer (some ⟨Sb,0,none⟩),.agg #[.int .i64 a,.int .i64 len,.int .i64 g,.int .i64 mk]] wy fun e w'=>∃A n c,e=.returned (.tuple #[.slice A n c,.int .i64 (Jj d1 ⟨a,len,g,mk⟩).1])∧Below wy.heap.size wy w') (fun wy _ hs=>
   (Ff hs d6 ⟨a,len,g,mk⟩ a rfl (by omega)).mono fun e w' h=>by
    obtain⟨A,n,c,h1,h2⟩:=h.shape;exact⟨A,n,c,h1,h2.2⟩)
  have G:=@Qa (∀wy,Below wr.heap.size wr wy→Calls prog 62 #[.pointer (some ⟨M,0,none⟩),.agg #[.int .i64 a,.int .i64 len]] wy fun e w'=>ZU wy w' base M (KA mj a len) e) (fun wy hy=>
   G7 (t.o.below hy).map C.o.inv (Nat.le_trans aw hy.size) a len (by omega) (by omega))
  have bO:¬((Jj d1 ⟨a,len,g,mk⟩).1=0∧(KA mj a len).1=0)→KS d1 all mp sl q n (k+1) f mj:=fun h=>C.o.skip X HY.o (by show(0:Int)≤(a:Int);omega) V h
  have cK:(Jj d1 ⟨a,len,g,mk⟩).1=0→(KA mj a len).1=0→KS d1 all mp sl q n (k+1) (f++[((n1,n2),⟨a,len,g,mk⟩)]) (KA mj a len).2:=fun h1 h2=>C.o.keep X HY.o (by show(0:Int)≤(a:Int);omega) V h1 h2
  have a7:=Qa bO;have a6:=Qa cK;have bJ:=Qa az;have df:=Qa ah;clear bO cK az ah;obtain⟨et,cD⟩:=eX ((Jj d1 ⟨a,len,g,mk⟩).1);obtain⟨cm,b4⟩:=eX (KA mj a len);have am:cm.1≠0→cm.2=mj:=by rw[b4];exact FA
  rw[←cD]at b8 a7 a6 V;rw[←b4]at G a7 a6;clear cD b4;obtain⟨ec,Q⟩:=cm;simp only at a7 a6 am;replace G:Qb (∀wy,Below wr.heap.size wr wy→Calls prog 62 #[.pointer (some ⟨M,0,none⟩),.agg #[.int .i64 a,.int .i64 len]] wy fun e w'=>e=.returned (.int .i64 ec)∧KL w' base M Q∧Qd base [220] wy w'):=G.o;have aU:=Qa am;have d5:=Qa bT;clear am bT;go_upto_region 22 with fail;have O:Qb (Below wr.heap.size wr (wr.alloc (.cells #[.int .i64 n1,.int .i64 n2] 73))):=bR.alloc nR _;have u:=Qa (Qh.new wr 73 #[.int .i64 n1,.int .i64 n2]);clear c0 c1 b5;generalize wr.alloc (.cells #[.int .i64 n1,.int .i64 n2] 73)=w2 at*
  obtain⟨g3,cd⟩:=eX wr.heap.size;rw[←cd]at u ⊢;have dt:base≤g3:=by omega
  clear cd;have bf:=O.o.size
  have a8:=@Qa (∀wy,Below w2.heap.size w2 wy→wy.cell? ⟨Sb,5,none⟩=some (.map (some Pb))∧(wy.cell? ⟨g3,0,none⟩=some (.int .i64 n1)∧wy.cell? ⟨g3,1,none⟩=some (.int .i64 n2))∧(Instr.lookup 125 (.map (some Pb)) (.agg #[.int .i64 n1,.int .i64 n2]) false).run prog wy=.ok (.agg #[.int .i64 a,.int .i64 len,.int .i64 g,.int .i64 mk]) wy) (fun wy hy=>by
   have hh:=t.o.below (O.o.trans (hy.mono bf));have hx:=u.o.below hy u.o.lt;refine⟨hh.blk.cell 5,⟨hx.cell 0,hx.cell 1⟩, ?_⟩;have:=hh.pmap.look (x:=(n1,n2)) ck;rw[show QC (f++all.drop k) (n1,n2)=_ from d5.o]at this;exact this)
  have c7:=Qa (a8.o _ bR.drew)
  have b7:Qb (Below w2.heap.size w2 ((w2.alloc (.cells #[.int .i64 0,.int .i64 0,.int .i64 0,.int .i64 0] 142)).drew.setRow w2.heap.size #[.int .i64 a,.int .i64 len,.int .i64 g,.int .i64 mk])):=
   (bR.alloc nR _).drew.trans (Qg (Qm _ _ _) (by simp) (gB (by omega)))
  have cp:Qb (Qh ((w2.alloc (.cells #[.int .i64 0,.int .i64 0,.int .i64 0,.int .i64 0] 142)).drew.setRow w2.heap.size #[.int .i64 a,.int .i64 len,.int .i64 g,.int .i64 mk]) w2.heap.size 142 #[.int .i64 a,.int .i64 len,.int .i64 g,.int .i64 mk]):=Qp (Qh.new w2 142 _).drew _;have zs:(Zq (.pointer (some ⟨w2.heap.size,0,none⟩)) (.agg #[.int .i64 a,.int .i64 len,.int .i64 g,.int .i64 mk])).run prog (w2.alloc (.cells #[.int .i64 0,.int .i64 0,.int .i64 0,.int .i64 0] 142)).drew=.ok () ((w2.alloc (.cells #[.int .i64 0,.int .i64 0,.int .i64 0,.int .i64 0] 142)).drew.setRow w2.heap.size #[.int .i64 a,.int .i64 len,.int .i64 g,.int .i64 mk]):=XD (Qh.new w2 142 _).drew rfl rfl (by simp[Value.oneCell']);have cu:=Qa (a8.o _ b7.o);go_cut [14] (fun v14 wx=>v14=.pointer (some ⟨w2.heap.size,0,none⟩)∧Below w2.heap.size w2 wx∧Qh wx w2.heap.size 142 #[.int .i64 a,.int .i64 len,.int .i64 g,.int .i64 mk])
  case first=>
   go_region_held3 (fun wy=>wy.cell? ⟨Sb,5,none⟩=some (.map (some Pb))∧(wy.cell? ⟨g3,0,none⟩=some (.int .i64 n1)∧wy.cell? ⟨g3,1,none⟩=some (.int .i64 n2))∧(Instr.lookup 125 (.map (some Pb)) (.agg #[.int .i64 n1,.int .i64 n2]) false).run prog wy=.ok (.agg #[.int .i64 a,.int .i64 len,.int .i64 g,.int .i64 mk]) wy)
    (first|exact c7.o|exact cu.o|exact a8.o _ (bR.drew.alloc nR _)|exact a8.o _ ((bR.alloc nR _).drew))
    (fail)
   all_goals
    go_wp2_with fail;go_meet;exact⟨rfl,b7.o,cp.o⟩
  obtain⟨rfl,a1,J⟩:=hcut;obtain⟨g4,cx⟩:=eX w2.heap.size;rw[←cx]at J ⊢;have du:base≤g4:=by omega
  clear cx c7 cu a8 zs b7 cp;have ae:=Qa (u.o.below a1 u.o.lt);have ak:=Qa J;have p:=Qa (O.o.trans (a1.mono bf));have z0:=J.cell 0;have z1:=J.cell 1;have z2:=J.cell 2;have z3:=J.cell 3;have zl:=J.lt;have bQ:((et:Int)==10)=false:=by simp;omega
  have bI:=Qa (b8.o _ (Qd.Qe p.o aw) (t.o.below p.o));clear a1 J u O bf b8;go_upto_region 26 with(go_at_call 61;refine bI.o.mono ?_;rintro en w4 ⟨A4,n4,c4,rfl,N⟩;(have ab:=Qa (p.o.trans (N.mono p.o.size)));(have b0:=Qa (ae.o.below N ae.o.lt));(have aS:=Qa (ak.o.below N ak.o.lt));clear N);clear z0 z1 z2 z3 zl bQ bI ae ak p;have W:=Qa (t.o.below ab.o);have aM:=ab.o.size;have af:base≤w4.heap.size:=Nat.le_trans aw aM;obtain⟨bq,hbq0⟩:∃bq,bq=decide (¬(et=0∧ec=0)):=⟨_,rfl⟩;have av:=Qa hbq0;clear hbq0;go_cut [125] (fun v wx=>v=.bool bq∧QO wx base Sb { Kh d1 l1 q n with Qc:=f++all.drop k,map:=(if et=0 then Q else mj) } ⟨Lb,B,M,Nb,Pb,none,0⟩∧Qd base [220] w4 wx)
  case first=>
   by_cases he:et=0
   ·subst he
    have bY:=@Qa (∀wy,Qd base [220] w4 wy→wy.cell? ⟨Sb,3,none⟩=some (.pointer (some ⟨M,0,none⟩))∧wy.cell? ⟨g4,0,none⟩=some (.int .i64 a)∧wy.cell? ⟨g4,1,none⟩=some (.int .i64 len)) (fun wy hy=>by
     have h1:=W.o.blk.keeps hy (by decide);have h2:=aS.o.keeps hy (by decide);exact⟨h1.cell 3,h2.cell 0,h2.cell 1⟩)
    have d4:=Qa (bY.o _ (Qd.Qe bR.drew af))
    go_region_held3 (fun wy=>wy.cell? ⟨Sb,3,none⟩=some (.pointer (some ⟨M,0,none⟩))∧wy.cell? ⟨g4,0,none⟩=some (.int .i64 a)∧wy.cell? ⟨g4,1,none⟩=some (.int .i64 len))
     (first|exact d4.o|exact bY.o _ K5.o)
     (first|(go_at_call 62;refine(G.o _ (ab.o.trans (bR.drew.mono aM))).mono ?_;rintro en w5 ⟨rfl,cC,ba⟩;(have d8:=Qa cC);(have aq:=Qa ba);(have K5:Qb (Qd base [220] w4 w5):=(Qd.Qe bR.drew af).trans ba);clear cC ba))
    all_goals
     have kq:=@Qa (QO w5 base Sb { Kh d1 l1 q n with Qc:=f++all.drop k,map:=(if 0=0 then Q else mj) } ⟨Lb,B,M,Nb,Pb,none,0⟩) (W.o.mapped K5.o d8.o);have cU:Qb (bq=((ec:Int) != 0)):=by
      show bq=((ec:Int) != 0);rw[av.o];by_cases h0:ec=0
      ·subst h0;rfl
      simp[h0]
     go_wp2_with fail;go_meet;exact⟨by rw[cU.o],kq.o,K5.o⟩
   have dy:((et:Int) != 0)=true:=by simp;omega
   have ac:bq=true:=by rw[av.o];simp[he]
   subst ac;have kq:=@Qa (QO w4 base Sb { Kh d1 l1 q n with Qc:=f++all.drop k,map:=(if et=0 then Q else mj) } ⟨Lb,B,M,Nb,Pb,none,0⟩) (by rw[if_neg he];exact W.o);clear he;refine wp_region_quiet_below (by kernel_rfl) (by kernel_rfl) ?_
   repeat (go_big_quiet_step (fail))
   refine wpQuiet_nil ?_;intro _ hw';obtain⟨⟨dq,cy⟩,bB⟩:=hw';subst bB;go_wp2_with fail;go_meet;exact⟨rfl,kq.o.below (below_regrown w4 dq cy),Qd.Qe (below_regrown w4 dq cy) af⟩
  obtain⟨rfl,bh,aG⟩:=hcut;have ct:=Qa bh;have cV:=Qa aG;have aN:=Qa (b0.o.keeps aG (by decide));have cJ:=bh.lt;have cS:=Qa ((bt.o.trans (Qd.Qe (base:=base) (ts:=[220,1000000]) ab.o aw)).trans (aG.mono nR (by simp)));clear bh aG b0 aS G W ab t bt cV;by_cases hb:et=0∧ec=0
  ·have ac:bq=false:=by rw[av.o];simp[hb]
   subst ac;have Y:=Qa (a6.o hb.1 hb.2)
   have aH:=@Qa (QO wc base Sb { Kh d1 l1 q n with Qc:=(f++[((n1,n2),(⟨a,len,g,mk⟩:Qx))])++all.drop (k+1),map:=Q } ⟨Lb,B,M,Nb,Pb,none,0⟩) (by
    have h1:=ct.o;rw[if_pos hb.1,bJ.o]at h1;rw[List.append_assoc];exact h1)
   clear hb;go_wp2_with fail;go_roundw
   case rel=>exact⟨k+1,f++[((n1,n2),⟨a,len,g,mk⟩)],Q,by omega,by simp,Y.o,aH.o,cS.o⟩
   case measure=>simp[intOf];omega
  have ac:bq=true:=by rw[av.o];simp only[hb];rfl
  subst ac;have Y:=Qa (a7.o hb);have bW:(if et=0 then Q else mj)=mj:=by
   by_cases h0:et=0
   ·rw[if_pos h0];exact aU.o (fun h=>hb ⟨h0,h⟩)
   rw[if_neg h0]
  have aH:=@Qa (QO wc base Sb { Kh d1 l1 q n with Qc:=f++all.drop k,map:=mj } ⟨Lb,B,M,Nb,Pb,none,0⟩) (by
   have h1:=ct.o;rw[bW]at h1;exact h1)
  have bC:(f++all.drop (k+1)).Sublist all:=Y.o.PX
  obtain⟨w8,aX,bH,_,cF,aA⟩:=(aH.o.below bR.drew).Uy (n1,n2) ck (f++all.drop (k+1)) (fun y=>by
   show _=if y=(n1,n2)then none else QC (f++all.drop k) y
   rw[bJ.o];exact Ni df.o y) (Y.o.Iq U.o) (Y.o.num S.o)
  have aD:=Qa (show wc.drew.cell? ⟨Sb,5,none⟩=some (.map (some Pb))∧(wc.drew.cell? ⟨g3,0,none⟩=some (.int .i64 n1)∧wc.drew.cell? ⟨g3,1,none⟩=some (.int .i64 n2))from
   ⟨aH.o.blk.drew.cell 5,aN.o.drew.cell 0,aN.o.drew.cell 1⟩)
  have dk:=Qa (show w8.cell? ⟨Sb,5,none⟩=some (.map (some Pb))∧(w8.cell? ⟨g3,0,none⟩=some (.int .i64 n1)∧w8.cell? ⟨g3,1,none⟩=some (.int .i64 n2))from
   ⟨Jh aA aD.o.1,Jh aA aD.o.2.1,Jh aA aD.o.2.2⟩)
  have db:=Qa bH;have ar:=Qa (cS.o.trans ((Qd.Qe (base:=base) (ts:=[220,1000000]) bR.drew cJ).trans (cF.mono nR (by simp))));clear hb bW bC bH cF aA a7 a6 aU;replace aX:(Builtin.delete_ #[125,73] 0 #[.map (some Pb),.agg #[.int .i64 n1,.int .i64 n2]]).run prog wc.drew=.ok (.tuple #[]) w8:=aX;go_upto_region 27 with fail
  go_region_held3 (fun wy=>wy.cell? ⟨Sb,5,none⟩=some (.map (some Pb))∧(wy.cell? ⟨g3,0,none⟩=some (.int .i64 n1)∧wy.cell? ⟨g3,1,none⟩=some (.int .i64 n2)))
   (first|exact aD.o|exact dk.o)
   (fail)
  all_goals
   go_wp2_with fail;go_roundw
   case rel=>exact⟨k+1,f,mj,by omega,by simp,Y.o,db.o,ar.o⟩
   case measure=>simp[intOf];omega
 obtain rfl:k=na:=by omega
 have aj:¬(k:Int)<k:=by omega
 obtain⟨bc,au⟩:=C.o.ended (by rw[←ap.o];exact nR);have bm:all.drop k=[]:=by rw[ap.o];exact List.drop_length
 have R:=C.o.Iq U.o;have P:=C.o.num S.o;have bs:=C.o.PX.length_le;rw[bm,List.append_nil,bc]at R P bs
 have a3:=@Qa (QO wr base Sb { Kh d1 l1 q n with Qc:=sl,map:=mp } ⟨Lb,B,M,Nb,Pb,none,0⟩) (by
  have h1:=t.o;rw[bm,List.append_nil,bc,au]at h1;exact h1)
 have dr:all.length≤100000:=by rw[←ap.o];omega
 have cH:Qb (MF { Kh d1 l1 q n with Qc:=sl,map:=mp }):=
  ⟨R,P,List.Pairwise.nil,(fun x hx=>by cases hx),(fun x hx=>by cases hx),by show sl.length≤_;omega,by show 0≤_;omega,by show 0≤_;omega⟩
 have Z:=HG.o.tn;rw[←HQ.o,←HN.o]at Z;have aQ:{ Vu d1 l1 q n with Qc:=sl,map:=mp }=({ Kh d1 l1 q n with Qc:=sl,map:=mp }:QM):=by rw[b9.o]
 rw[aQ]at Z;have aL:KI d d1 l1 sl mp d2 l2={ ({ Kh d1 l1 q n with Qc:=sl,map:=mp }:QM)with d:=d2,log:=l2 }:=by
  unfold KI;rw[←HQ.o,←HN.o,b9.o]
 have aJ:=Qa aL;have cZ:=Qa (cE.o.trans (ag.mono nR (ts':=EF) (by simp)));have ao:=s.lt;have de:(Qn { Kh d1 l1 q n with Qc:=sl,map:=mp }).length≤100000:=by
  rw[Vd,List.length_append,List.length_append,List.length_map,List.length_map,List.length_map];show 0+sl.length+0≤_;omega
 clear bc au bm R P aQ aL s ag br t bt cE aV C ch U S b9 bG;obtain⟨s2,hs2⟩:∃s2,s2=({ Kh d1 l1 q n with Qc:=sl,map:=mp }:QM):=⟨_,rfl⟩;have bv:s2.d=d1:=by rw[hs2];rfl
 have aP:s2.log=l1:=by rw[hs2];rfl
 rw[←hs2]at a3 cH aJ Z de;clear hs2;have cs:=@Qa (∀wy,Below wr.heap.size wr wy→Calls prog 64 #[.pointer (some ⟨Sb,0,none⟩)] wy fun e w'=>∃L A c,e=.returned (.slice A (Qn s2).length c)∧Xg wy w' (Qn s2) (Qn s2).length L (.slice A (Qn s2).length c)) (fun wy hy=>Z0 (a3.o.below hy) cH.o)
 have dd:=@Qa (∀wy w3 L A c,Below wr.heap.size wr wy→Xg wy w3 (Qn s2) (Qn s2).length L (.slice A (Qn s2).length c)→Calls prog 63 #[.pointer (some ⟨Lb,0,none⟩),.slice A (Qn s2).length c] w3 fun e w'=>e=.returned (.int .i64 0)∧QO w' base Sb { s2 with d:=d2,log:=l2 } ⟨Lb,B,M,Nb,Pb,none,0⟩∧Qd base [121,165,167,216,137] wr w') (fun wy w3 L A c hy hR=>by
  have a1:Below wr.heap.size wr w3:=hy.trans (hR.below.mono hy.size);have hh:=a3.o.below a1;have hL:L.map (·.1)=Qn s2:=by rw[hR.rcs,List.take_length]
  have h1:=hh.log;have h2:=hh.Ul;rw[aP]at h1;rw[bv]at h2;have:=Ie h1 h2 hh.Rn.steps hh.b2 (by have:=HG.o.By;omega) HG.o.D8 HG.o.ep L A c (by rw[hR.len];exact Sl.Jl hR.own) hR.OM (by rw[hR.len];omega);rw[hL,hR.len,Z]at this;refine this.mono ?_;rintro e w' ⟨h1,d3,h3,h4⟩;have kk:=(Qd.Qe (base:=base) (ts:=[121,165,167,216,137]) a1 ao).trans h4;have cR:d2.size=s2.d.size:=by
   have:=Ud d1 l1 (Qn s2);rw[Z]at this;rw[bv];exact this
  exact⟨h1,(a3.o.YG kk h3 d3 cR),kk⟩)
 have bx:=@Qa (∀wy,Qd base [121,165,167,216,137] wr wy→wy.cell? ⟨Sb,2,none⟩=some (.pointer (some ⟨Lb,0,none⟩))) (fun wy hy=>(a3.o.blk.keeps hy (by decide)).cell 2);have da:=Qa (bx.o _ (Qd.Qe bR.drew ao));clear Z bv aP;generalize (Qn s2).length=nr at*
 go_upto_region 29 with fail
 go_region_held3 (fun wy=>wy.cell? ⟨Sb,2,none⟩=some (.pointer (some ⟨Lb,0,none⟩)))
  (first|exact bx.o _ H.o|exact bx.o _ (Qd.Qe p.o ao)|exact da.o)
  (first
   |(go_at_call 64;refine(cs.o _ bR.drew).mono ?_;rintro en w3 ⟨L,A3,c3,rfl,hR⟩;(have HR:=Qa hR);(have p:Qb (Below wr.heap.size wr w3):=bR.drew.trans hR.below);clear hR)
   |(go_at_call 63;refine(dd.o _ _ _ _ _ bR.drew HR.o).mono ?_;rintro en w4 ⟨rfl,bM,K⟩;(have W:=Qa bM);(have H:=Qa K);clear bM K))
 all_goals
  go_wp2_with fail;go_ret2;rw[aJ.o];exact⟨Sb,⟨Lb,B,M,Nb,Pb,none,0⟩,rfl,rfl,W.o,cZ.o.trans (H.o.mono nR (by simp))⟩
end
variable {Sb:Nat} {m:KY} {w:World}
theorem QO.Lz{base:Nat}(h:QO w base Sb s m)(v:Int)(hv:ZX v)(t:List UInt8)(l':List (Int × List UInt8))(hl:∀y,QC l' y=if y=v then some t else QC s.notes y)(hs:Yx l')(hr:∀x∈l',Qs x.1=true∧x.2.length≤3000)(hn:s.notes.length<1000000):
  ∃w',(Instr.mapUpdate 124 (.map (some m.Nb)) (.int .i64 v) (Qw t)).run prog w=.ok () w'∧QO w' base Sb { s with notes:=l' } m∧Qt base m m w w'∧Qd base [1000000] w w'∧w.mapTurned w' m.Nb:=by
 obtain⟨w',b,c,a⟩:=h.OG.put (by unfold maxLen;omega) hv t;obtain⟨h1,h2⟩:=h.LZ a (c.congr fun y _=>hl y) hs hr;exact⟨w',b,h1,h2,KV.YT a h.Wn h.lt,a⟩
theorem QO.P9{base:Nat}(h:QO w base Sb s m)(v:Int)(hv:ZX v)(l':List (Int × List UInt8))(hl:∀y,QC l' y=if y=v then none else QC s.notes y)(hs:Yx l')(hr:∀x∈l',Qs x.1=true∧x.2.length≤3000):
  ∃w',(Builtin.delete_ #[124,2] 0 #[.map (some m.Nb),.int .i64 v]).run prog w=.ok (.tuple #[]) w'∧QO w' base Sb { s with notes:=l' } m∧Qt base m m w w'∧Qd base [1000000] w w'∧w.mapTurned w' m.Nb:=by
 obtain⟨w',b,c,a⟩:=h.OG.drop hv 0;obtain⟨h1,h2⟩:=h.LZ a (c.congr fun y _=>hl y) hs hr;exact⟨w',b,h1,h2,KV.YT a h.Wn h.lt,a⟩
variable {T X Y Z:Nat}
theorem PW{base:Nat}{v:Int}{t was:List UInt8}{there:Bool}(h:QO w base Sb { s with notes:=KM v t s.notes } m)(hv:ZX v)
  (hT:Qh w T 4 #[.bool there])(hZ:Qh w Z 9 #[.string ⟨was.toArray⟩])(hX:Qh w X 28 #[.pointer (some ⟨Sb,0,none⟩)])(hY:Qh w Y 2 #[.int .i64 v])
  (hw:QC s.notes v=if there=true then some was else none)(hs:Yx s.notes)(hr:∀x∈s.notes,Qs x.1=true∧x.2.length≤3000)(hn:s.notes.length<999999):
  Calls prog 132 #[.pointer (some ⟨T,0,none⟩),.pointer (some ⟨Z,0,none⟩),.pointer (some ⟨X,0,none⟩),.pointer (some ⟨Y,0,none⟩)] w fun e w'=>e=.returned (.tuple #[])∧QO w' base Sb s m∧Qt base m m w w'∧Qd base [1000000] w w':=by
 have f:=h.lt;have sl:=h.blk.lt;have tl:=hT.lt;have zl:=hZ.lt;have xl:=hX.lt;have yl:=hY.lt;have t0:w.cell? ⟨T,0,none⟩=some (.bool there):=hT.cell 0;have HK:=@Qa (Below w.heap.size w w.drew) (bR.drew);cases there with
 |true=>
  rw[if_pos rfl]at hw;have hl:∀y,QC s.notes y=if y=v then some was else QC (KM v t s.notes) y:=fun y=>by
   by_cases e:y=v
   ·rw[if_pos e,e];exact hw
   rw[if_neg e,OE,if_neg e]
  obtain⟨w8,c,d,b,a,g⟩:=(h.below HK.o).Lz v hv was s.notes hl hs hr (by show(KM v t s.notes).length<_;have:=Y2 (k:=v) (v:=t) s.notes;omega);replace c:(Instr.mapUpdate 124 (.map (some m.Nb)) (.int .i64 v) (.string ⟨was.toArray⟩)).run prog w.drew=.ok () w8:=c
  have S0:=Qa (show w.drew.cell? ⟨X,0,none⟩=some (.pointer (some ⟨Sb,0,none⟩))∧w.drew.cell? ⟨Sb,4,none⟩=some (.map (some m.Nb))∧w.drew.cell? ⟨Y,0,none⟩=some (.int .i64 v)∧w.drew.cell? ⟨Z,0,none⟩=some (.string ⟨was.toArray⟩)from
   ⟨hX.drew.cell 0,h.blk.drew.cell 4,hY.drew.cell 0,hZ.drew.cell 0⟩)
  have S8:=Qa (show w8.cell? ⟨X,0,none⟩=some (.pointer (some ⟨Sb,0,none⟩))∧w8.cell? ⟨Sb,4,none⟩=some (.map (some m.Nb))∧w8.cell? ⟨Y,0,none⟩=some (.int .i64 v)∧w8.cell? ⟨Z,0,none⟩=some (.string ⟨was.toArray⟩)from
   ⟨(hX.drew.keeps a (by decide)).cell 0,(h.blk.drew.keeps a (by decide)).cell 4,(hY.drew.keeps a (by decide)).cell 0,(hZ.drew.keeps a (by decide)).cell 0⟩)
  have HQ:=@Qa (QO w8 base Sb s m∧Qt base m m w w8∧Qd base [1000000] w w8) (⟨d,(Qt.Qe (m:=m) HK.o f).trans b,(Qd.Qe HK.o f).trans a⟩);clear h hT hZ hX hY d b a g hw hl hs hr;go_enter func132,ntmps132;go_upto_region 1 with fail
  go_region_held3 (fun wy=>wy.cell? ⟨X,0,none⟩=some (.pointer (some ⟨Sb,0,none⟩))∧wy.cell? ⟨Sb,4,none⟩=some (.map (some m.Nb))∧wy.cell? ⟨Y,0,none⟩=some (.int .i64 v)∧wy.cell? ⟨Z,0,none⟩=some (.string ⟨was.toArray⟩))
   (first|exact S0.o|exact S8.o)
   (fail)
  all_goals
   go_wp2_with fail
   go_end0
   exact⟨rfl,HQ.o⟩
 |false=>
  rw[if_neg (by simp)]at hw;have hl:∀y,QC s.notes y=if y=v then none else QC (KM v t s.notes) y:=fun y=>by
   by_cases e:y=v
   ·rw[if_pos e,e];exact hw
   rw[if_neg e,OE,if_neg e]
  obtain⟨w8,c,d,b,a,g⟩:=(h.below HK.o).P9 v hv s.notes hl hs hr
  have S0:=Qa (show w.drew.cell? ⟨X,0,none⟩=some (.pointer (some ⟨Sb,0,none⟩))∧w.drew.cell? ⟨Sb,4,none⟩=some (.map (some m.Nb))∧w.drew.cell? ⟨Y,0,none⟩=some (.int .i64 v)from
   ⟨hX.drew.cell 0,h.blk.drew.cell 4,hY.drew.cell 0⟩)
  have S8:=Qa (show w8.cell? ⟨X,0,none⟩=some (.pointer (some ⟨Sb,0,none⟩))∧w8.cell? ⟨Sb,4,none⟩=some (.map (some m.Nb))∧w8.cell? ⟨Y,0,none⟩=some (.int .i64 v)from
   ⟨(hX.drew.keeps a (by decide)).cell 0,(h.blk.drew.keeps a (by decide)).cell 4,(hY.drew.keeps a (by decide)).cell 0⟩)
  have HQ:=@Qa (QO w8 base Sb s m∧Qt base m m w w8∧Qd base [1000000] w w8) (⟨d,(Qt.Qe (m:=m) HK.o f).trans b,(Qd.Qe HK.o f).trans a⟩);clear h hT hZ hX hY d b a g hw hl hs hr;go_enter func132,ntmps132;go_upto_region 2 with fail
  go_region_held3 (fun wy=>wy.cell? ⟨X,0,none⟩=some (.pointer (some ⟨Sb,0,none⟩))∧wy.cell? ⟨Sb,4,none⟩=some (.map (some m.Nb))∧wy.cell? ⟨Y,0,none⟩=some (.int .i64 v))
   (first|exact S0.o|exact S8.o)
   (fail)
  all_goals
   go_wp2_with fail
   go_end0
   exact⟨rfl,HQ.o⟩
end Go.Proofs.YtmgmfnimaafkdaaGreatDoor
