/- The disk: Size, has, Read. -/
import Derived.Test.YtmgmfnimaafkdaaGreatDoorVA
import Derived.Test.YtmgmfnimaafkdaaGreatDoorProg
import Derived.WalkKit
import Derived.WalkSpells
import Derived.WalkLawsBesides
import Derived.Lib.Hide
import Derived.Lib.LaidTab
import Derived.Deep.DeepCutAuto
import Derived.Laws.BitsLemmas
import Derived.Maps.AppendAt
import Derived.Deep.QuietTactic
import Derived.BigQuiet
import Derived.Maps.OwnSet
import Derived.Maps.OwnOps
import Derived.Maps.Ext
import Derived.Lib.QuietBelow
import Derived.Deep.MidRow
import Derived.Deep.RegionLaw
import Derived.Deep.RegionHeld3
import Derived.Maps.RangeWalk
import Derived.Laws.CopyOwn
namespace Go.Proofs.YtmgmfnimaafkdaaGreatDoor
set_option maxRecDepth 100000
set_option maxHeartbeats 0
open Go.RowKit
open Tryz
variable {d d':Qq} {e:Nat} {l l':QD}
theorem GU{r:QN}(hn:l.Qo.length≤1000000)(h:VN d l r=(e,d',l')):l'.Qo.length≤1000000:=by
 unfold VN at h;split at h
 ·injection h with _ h;injection h with _ h;subst h;exact hn
 split at h
 ·injection h with _ h;injection h with _ h;subst h;exact hn
 rename_i hc;split at h
 ·injection h with _ h;injection h with _ h;subst h;simp only[List.length_append,List.length_cons,List.length_nil];omega
 injection h with _ h;injection h with _ h;subst h;exact hn
theorem Me{keep:List QN}(hn:l.Qo.length≤1000000)(hk:keep.length≤1000000)(h:Ku d l keep=(e,d',l')):l'.Qo.length≤1000000:=by
 unfold Ku at h;simp only at h;split at h
 ·split at h
  ·split at h
   ·split at h
    ·split at h
     ·injection h with _ h;injection h with _ h;subst h;exact hk
     injection h with _ h;injection h with _ h;subst h;exact hn
    injection h with _ h;injection h with _ h;subst h;exact hn
   injection h with _ h;injection h with _ h;subst h;exact hn
  injection h with _ h;injection h with _ h;subst h;exact hn
 injection h with _ h;injection h with _ h;subst h;exact hn
theorem RH{keep:List QN}(hn:l.Qo.length≤1000000)(h:Ju d l keep=(e,d',l')):l'.Qo.length≤1000000:=by
 unfold Ju at h;split at h
 ·injection h with _ h;injection h with _ h;subst h;exact hn
 split at h
 ·injection h with _ h;injection h with _ h;subst h;exact hn
 exact Me hn (by omega) h
variable {lo:Nat} {s s' was:QM}
theorem Xj{r:QN}(hi:JU s.d s.log lo)(hl:s.d.Qk.length≤65536)(he:s.log.epoch+1<2^39)(hn:s.log.Qo.length≤1000000)(hr:r.2.length≤4000)(h:Qy s was r=(e,s')):
  Q2 (KG (s.log.epoch+1)) 8589934592 s.d s'.d∧s'.log.Qo.length≤1000000:=by
 unfold Qy at h;cases h1:VN s.d s.log r with
 |mk e1 q=>
  obtain⟨d1,l1⟩:=q;have r1:=(FK hl (by omega) hn h1).mono fun b hb=>hb.le (Nat.le_succ _)
  have n1:=GU hn h1;rw[h1]at h;split at h
  ·rename_i g;injection g with g1 g2;injection g2 with g2 g3;subst g1;subst g2;subst g3;injection h with _ h;subst h;exact⟨r1.le (by omega),n1⟩
  ·rename_i g;injection g with g1 g2;injection g2 with g2 g3;subst g1;subst g2;subst g3;have hd:d1=s.d∧l1=s.log:=by
    rcases Mw hi hr with q|⟨d',l',q,_⟩
    ·rw[q]at h1;injection h1 with _ h1;injection h1 with a b;exact⟨a.symm,b.symm⟩
    rw[q]at h1;injection h1 with h1 _;simp at h1
   obtain⟨rfl,rfl⟩:=hd;cases h2:Ju s.d s.log (Qn s)with
   |mk e2 q=>
    obtain⟨d2,l2⟩:=q;have r2:=Ug hi hl he h2;have n2:=RH hn h2;rw[h2]at h;cases e2 with
    |zero=>simp only at h;injection h with _ h;subst h;exact⟨r2.le (by omega),n2⟩
    |succ e2=>simp only at h;injection h with _ h;subst h;exact⟨r2.le (by omega),n2⟩
  rename_i g;injection g with g1 g2;injection g2 with g2 g3;subst g1;subst g2;subst g3;injection h with _ h;subst h;exact⟨r1.le (by omega),n1⟩
theorem RL{mk:Int}(hi:JU s.d s.log lo)(hl:s.d.Qk.length≤65536)(he:s.log.epoch+1<2^39)(hn:s.log.Qo.length≤1000000)(h:YD s=(e,mk,s')):
  Q2 (KG (s.log.epoch+1)) 4294967296 s.d s'.d∧s'.log.Qo.length≤1000000:=by
 unfold YD at h;simp only at h;split at h
 ·cases h2:Ju s.d s.log (Qn s)with
  |mk e2 q=>
   obtain⟨d2,l2⟩:=q;have r2:=Ug hi hl he h2;have n2:=RH hn h2;rw[h2]at h;cases e2 with
   |zero=>
    simp only at h;injection h with _ h;injection h with _ h;subst h;split<;>exact⟨r2,n2⟩
   |succ e2=>
    injection h with _ h;injection h with _ h;subst h;exact⟨r2,n2⟩
 injection h with _ h;injection h with _ h;subst h;split<;>exact⟨Q2.refl _,hn⟩
variable {k n:Nat}
theorem ZQ(hs:KJ n k=true):∃d1 d,ZR (JA n k) 0 (n/4)=(0,d1,⟨0,n/4/2,k,0,1,1,[]⟩)∧Ju d1 ⟨0,n/4/2,k,0,1,1,[]⟩ []=(0,d,⟨0,n/4/2,k,1,2,n/4/2+1,[]⟩)∧(JA n k).V2 d1∧(JA n k).V2 d∧
  Wf (JA n k)=(0,d,some ⟨d,⟨0,n/4/2,k,1,2,n/4/2+1,[]⟩,⟨n/4,n-n/4,if 0<n-n/4 then[(n/4,n-n/4)]else[]⟩,[],[],[],0,0⟩):=by
 unfold KJ at hs;simp only[Bool.not_eq_true',Bool.or_eq_false_iff,decide_eq_false_iff_not,beq_eq_false_iff_ne]at hs;obtain⟨⟨⟨hq,b⟩,a1⟩,a0⟩:=hs;obtain⟨h1,h2⟩:=ZH b;have hl:(JA n k).Qk.length=n:=by simp[JA]
 have hz:(JA n k).size=k:=rfl;have a:=O5 h1 h2;have hp:1≤Qf k 201:=JQ h1 h2 (by omega);obtain⟨d1,e1,L1⟩:=Nl (n:=n) (k:=k) (q:=n/4) h1 h2 (by omega) (by omega);obtain⟨d2,e2,L2⟩:=OD (d:=d1) (l:=⟨0,n/4/2,k,0,1,1,[]⟩) (keep:=[]) (by rw[L1.1,hz];exact h1) (by rw[L1.1,hz];exact h2) (by rw[L1.1,hz]) (L1.2.2.trans rfl) (fun r hr=>by cases hr) (by simp[a];omega) (by rw[L1.2.1,hl];simp;omega);have ht:Ju d1 ⟨0,n/4/2,k,0,1,1,[]⟩ []=(0,d2,⟨0,n/4/2,k,1,2,n/4/2+1,[]⟩):=by
  unfold Ju;rw[if_neg (by simp),if_neg (by simp[a];omega),e2];simp[QD.begin,a]
 refine⟨d1,d2,e1,ht,L1,L1.trans L2, ?_⟩;unfold Wf;simp only[hl,hz];rw[if_neg (by omega),e1];simp only[List.foldl_nil,Kg];have hr:∀d l m,Qn (⟨d,l,m,[],[],[],0,0⟩:QM)=[]:=fun _ _ _=>rfl
 simp only[hr,ht]
theorem Nf(hs:KJ n k=true):16≤n∧19≤k∧k≤4096:=by
 unfold KJ at hs;simp only[Bool.not_eq_true',Bool.or_eq_false_iff,decide_eq_false_iff_not,beq_eq_false_iff_ne]at hs;obtain⟨⟨⟨hq,a⟩,a1⟩,a0⟩:=hs;obtain⟨h1,h2⟩:=ZH a;omega
def QC{κ α:Type}[DecidableEq κ](l:List (κ × α))(x:κ):Option α:=(l.find? (fun y=>decide (y.1=x))).map (·.2)
theorem Y1{κ α:Type}[DecidableEq κ](x:κ):QC ([]:List (κ × α)) x=none:=rfl
theorem Jd{κ α:Type}[DecidableEq κ](a:κ)(v:α)(l:List (κ × α))(x:κ):QC ((a,v)::l) x=if x=a then some v else QC l x:=by
 unfold QC;rw[List.find?_cons];by_cases h:x=a
 ·subst h;simp
 have:¬a=x:=fun e=>h e.symm
 simp[h,this]
theorem KD{κ α:Type}[DecidableEq κ]{x:κ}:∀{l:List (κ × α)},(QC l x).isSome=true↔x∈l.map (·.1)
 |[]=>by simp[Y1]
 |(a,v)::l=>by
  rw[Jd];by_cases h:x=a
  ·subst h;simp
  simp only[List.map_cons,List.mem_cons,h,false_or];exact KD
theorem Vt{κ α:Type}[DecidableEq κ]{x:κ}{v:α}:∀{l:List (κ × α)},QC l x=some v→(x,v)∈l
 |[],h=>by simp[Y1]at h
 |(a,u)::l,h=>by
  rw[Jd]at h;split at h
  ·rename_i e;injection h with h;subst e;subst h;exact List.mem_cons_self
  exact List.mem_cons_of_mem _ (Vt h)
theorem KZ{κ α:Type}[DecidableEq κ](p:κ→Bool)(x:κ):∀(l:List (κ × α)),QC (l.filter fun y=>p y.1) x=if p x=true then QC l x else none
 |[]=>by simp[Y1]
 |(a,u)::l=>by
  have ih:=KZ p x l;rw[List.filter_cons,Jd];by_cases h:x=a
  ·subst h;cases hp:p x
   ·simp[ih,hp]
   simp[Jd]
  cases hp:p a
  ·simp[ih,h]
  simp only[if_true,Jd,if_neg h];exact ih
theorem IB{α:Type}(k:Qj)(v:α)(y:Qj):∀(l:List (Qj × α)),QC (JL k v l) y=if y=k then some v else QC l y
 |[]=>by rw[JL,Jd]
 |(a,x)::l=>by
  unfold JL;split
  ·rw[Jd]
  split
  ·rename_i _ e;subst e;rw[Jd,Jd];by_cases h:y=a<;>simp[h]
  rename_i _ e;rw[Jd,Jd,IB k v y l];by_cases h:y=a
  ·subst h;simp[e]
  simp[h]
theorem OE{α:Type}(k:Int)(v:α)(y:Int):∀(l:List (Int × α)),QC (KM k v l) y=if y=k then some v else QC l y
 |[]=>by rw[KM,Jd]
 |(a,x)::l=>by
  unfold KM;split
  ·rw[Jd]
  split
  ·rename_i _ e;subst e;rw[Jd,Jd];by_cases h:y=a<;>simp[h]
  rename_i _ e;rw[Jd,Jd,OE k v y l];by_cases h:y=a
  ·subst h;simp[e]
  simp[h]
theorem Yf(s:QM)(n:Qj):MP s n=QC s.Qc n:=by
 unfold MP QC;congr 1;congr 1
 funext y
 rw[Bool.eq_iff_iff];simp
theorem XI{a b:Qj}:Wq a b=true↔a.1<b.1∨(a.1=b.1∧a.2<b.2):=by
 unfold Wq;simp
theorem Ir{a b c:Qj}(h:Wq a b=true)(g:Wq b c=true):Wq a c=true:=by
 rw[XI]at h g ⊢;omega
theorem M4{a b:Qj}(h:Wq a b=true):a≠b:=by
 rintro rfl;rw[XI]at h;omega
theorem Fm{a b:Qj}(h:¬Wq a b=true)(hn:¬b=a):Wq b a=true:=by
 rw[XI]at h ⊢;have:¬(b.1=a.1∧b.2=a.2):=fun e=>hn (Prod.ext e.1 e.2)
 omega
def Xa{α:Type}(l:List (Qj × α)):Prop:=l.Pairwise fun x y=>Wq x.1 y.1=true
def Yx{α:Type}(l:List (Int × α)):Prop:=l.Pairwise fun x y=>x.1<y.1
theorem Z3{α:Type}{k:Qj}{v:α}:∀{l:List (Qj × α)},Xa l→Xa (JL k v l)
 |[],_=>List.pairwise_singleton _ _
 |(a,x)::l,h=>by
  obtain⟨h1,h2⟩:=List.pairwise_cons.1 h;unfold JL;split
  ·rename_i hk;refine List.pairwise_cons.2 ⟨fun y hy=> ?_,h⟩;rcases List.mem_cons.1 hy with rfl|hy
   ·exact hk
   exact Ir hk (h1 y hy)
  split
  ·rename_i _ e;subst e;exact List.pairwise_cons.2 ⟨fun y hy=>h1 y hy,h2⟩
  rename_i hk e;refine List.pairwise_cons.2 ⟨fun y hy=> ?_,Z3 h2⟩;rcases VR hy with rfl|hy
  ·exact Fm hk e
  exact h1 y hy
theorem Yr{α:Type}{k:Int}{v:α}:∀{l:List (Int × α)} {x:Int × α},x∈KM k v l→x=(k,v)∨x∈l
 |[],x,h=>by unfold KM at h;rw[List.mem_singleton]at h;exact .inl h
 |(a,u)::l,x,h=>by
  unfold KM at h;split at h
  ·rcases List.mem_cons.1 h with h|h
   ·exact .inl h
   exact .inr h
  split at h
  ·rcases List.mem_cons.1 h with h|h
   ·exact .inl h
   exact .inr (List.mem_cons_of_mem _ h)
  rcases List.mem_cons.1 h with h|h
  ·exact .inr (by rw[h];exact List.mem_cons_self)
  rcases Yr h with h|h
  ·exact .inl h
  exact .inr (List.mem_cons_of_mem _ h)
theorem UC{α:Type}{k:Int}{v:α}:∀{l:List (Int × α)},Yx l→Yx (KM k v l)
 |[],_=>List.pairwise_singleton _ _
 |(a,x)::l,h=>by
  obtain⟨h1,h2⟩:=List.pairwise_cons.1 h;unfold KM;split
  ·rename_i hk;refine List.pairwise_cons.2 ⟨fun y hy=> ?_,h⟩;rcases List.mem_cons.1 hy with rfl|hy
   ·exact hk
   exact Int.lt_trans hk (h1 y hy)
  split
  ·rename_i _ e;subst e;exact List.pairwise_cons.2 ⟨fun y hy=>h1 y hy,h2⟩
  rename_i hk e;refine List.pairwise_cons.2 ⟨fun y hy=> ?_,UC h2⟩;rcases Yr hy with rfl|hy
  ·simp only;omega
  exact h1 y hy
theorem Zl{α:Type}{k:Qj}{v:α}:∀(l:List (Qj × α)),(JL k v l).length≤l.length+1
 |[]=>by simp[JL]
 |(a,x)::l=>by
  unfold JL;split
  ·simp
  split
  ·simp
  have:=Zl (k:=k) (v:=v) l;simp only[List.length_cons];omega
theorem Y2{α:Type}{k:Int}{v:α}:∀(l:List (Int × α)),(KM k v l).length≤l.length+1
 |[]=>by simp[KM]
 |(a,x)::l=>by
  unfold KM;split
  ·simp
  split
  ·simp
  have:=Y2 (k:=k) (v:=v) l;simp only[List.length_cons];omega
theorem Xa.nodup{α:Type}{l:List (Qj × α)}(h:Xa l):(l.map (·.1)).Nodup:=List.pairwise_map.2 (h.imp fun hh=>M4 hh)
theorem Yx.nodup{α:Type}{l:List (Int × α)}(h:Yx l):(l.map (·.1)).Nodup:=List.pairwise_map.2 (h.imp fun hh=>by omega)
structure XA (s:QM):Prop where
 at':s.log.at'≤s.log.begin s.log.use+s.log.half
 D8:s.log.size=s.d.size
 d19:19≤s.d.size
 ep:s.log.epoch+4<549755813888
 wt:s.d.waits.length≤824633720832
 map:JC s.map s.map.Ky s.d.Qk.length
 Vn:Xa s.Qc
 num:∀x∈s.Qc,Kf x∧x.2.len≤1048576
 VL:Yx s.notes
 Xv:∀x∈s.notes,Qs x.1=true∧x.2.length≤3000
 Xk:∀x∈s.marks,x.length≤3000
 nS:s.Qc.length≤100000
 nN:s.notes.length≤100000
 nM:s.marks.length≤100000
 pts:s.QA≤1048576
 BF:s.epoch<549755813888
def Ed(s:QM):Bool:=
 decide (s.log.at'≤s.log.begin s.log.use+s.log.half)&&decide (s.log.size=s.d.size)&&decide (19≤s.d.size)&&decide (s.log.epoch+4<549755813888)&&decide (s.d.waits.length≤824633720832)&&
 (decide (s.map.QJ=s.d.Qk.length-s.map.Ky)&&decide (s.map.Ky≤s.d.Qk.length)&&decide (s.map.free.Pairwise (fun x y=>x.1+x.2≤y.1))&&s.map.free.all (fun e=>decide (1≤e.2))&&s.map.free.all (fun e=>decide (s.map.Ky≤e.1∧e.1+e.2≤s.d.Qk.length)))&&
 decide (s.Qc.Pairwise fun x y=>Wq x.1 y.1=true)&&s.Qc.all (fun x=>Qs x.1.1&&Qs x.1.2&&decide (0≤x.2.at'∧x.2.at'≤65536)&&decide (x.2.bytes≤1048576)&&decide (0≤x.2.mark)&&decide (x.2.mark<9223372036854775808)&&decide (x.2.len≤1048576))&&
 decide (s.notes.Pairwise fun x y=>x.1<y.1)&&s.notes.all (fun x=>Qs x.1&&decide (x.2.length≤3000))&&s.marks.all (fun x=>decide (x.length≤3000))&&
 decide (s.Qc.length≤100000)&&decide (s.notes.length≤100000)&&decide (s.marks.length≤100000)&&decide (s.QA≤1048576)&&decide (s.epoch<549755813888)
theorem DM(h:Ed s=true):XA s:=by
 unfold Ed at h;simp only[Bool.and_eq_true,decide_eq_true_eq,List.all_eq_true]at h;obtain⟨⟨⟨⟨⟨⟨⟨⟨⟨⟨⟨⟨⟨⟨⟨a1,a2⟩,a3⟩,a4⟩,a5⟩,⟨⟨⟨⟨b1,b2⟩,b3⟩,b4⟩,b5⟩⟩,c1⟩,c2⟩,c3⟩,c4⟩,c5⟩,c6⟩,c7⟩,c8⟩,c9⟩,a⟩:=h;refine⟨a1,a2,a3,a4,a5,⟨rfl,b1,b2,⟨b3,b4⟩,b5⟩,c1,fun x hx=> ?_,c3,c4,c5,c6,c7,c8,c9,a⟩;obtain⟨⟨⟨⟨⟨⟨d1,d2⟩,d3⟩,d4⟩,d5⟩,d6⟩,d7⟩:=c2 x hx;exact⟨⟨d1,d2,d3,d4,d5,d6⟩,d7⟩
variable {a:Nat}
theorem MJ{m:Jt}{l:Nat}(h:JC m lo n):JC (KA m a l).2 lo n:=by
 unfold KA;split
 ·exact h
 rename_i ho;simp only;split
 ·exact h
 rename_i hc;have hm:=(Yi (at':=a) h).1;have hl:1≤l:=by
  unfold X6 at ho;simp only[Bool.not_eq_false,Bool.and_eq_true,decide_eq_true_eq]at ho;omega
 obtain⟨t1,t2,t3,t4⟩:=Ze (i:=Vg m a) (a:=a) (n:=l) h.Iq (by omega) hl (by omega) (by omega);refine⟨h.Ky,h.QJ,h.le,t1,fun e he=> ?_⟩;obtain⟨e',b,h5,h6⟩:=t4 e he;have:=h.R6 e' b;omega
def N9(d:Qq)(E:Nat):Bool:=(List.range d.Qk.length).all fun m=>match d.told m with
 |.data b _=>match J4 b with
  |some x=>decide (x.mark<2^60)&&(decide (x.kind≠72)||decide (x.mark≤E))
  |none=>true
 |_=>true
variable {E:Nat}
theorem PT(h:N9 d E=true):Ol d E:=by
 intro m hm b t hb x hx;unfold N9 at h;have:=List.all_eq_true.1 h m (List.mem_range.2 hm);rw[hb]at this;simp only[hx,Bool.and_eq_true,Bool.or_eq_true,decide_eq_true_eq]at this;refine⟨this.1,fun hk=> ?_⟩;rcases this.2 with h1|h1
 ·exact absurd hk h1
 exact h1
def XL(r:QN):Option (Qj × Int × Nat × Int):=if r.1=83 then match XP r.2 5 with
  |some [v,n,a,b,m]=>if Qs v&&Qs n&&decide (1≤b∧b≤1048576)&&decide (0≤a∧a≤65536)&&decide (0≤m∧m<9223372036854775808)then some ((v,n),a,b.toNat,m)else none
  |_=>none
 else none
theorem WC{r:QN}{n:Qj}{a m:Int}{b:Nat}(h:XL r=some (n,a,b,m)):Zf s r={ s with Qc:=JL n ⟨a,Qf s.d.size b,b,m⟩ s.Qc }:=by
 unfold XL at h;split at h
 ·rename_i hk;split at h
  ·rename_i v n' a' b' m' hn;split at h
   ·rename_i hc;injection h with h;injection h with h1 h;injection h with h2 h;injection h with h3 h4;subst h1;subst h2;subst h3;subst h4;simp only[Bool.and_eq_true,decide_eq_true_eq]at hc;obtain⟨⟨⟨⟨c1,c2⟩,c3⟩,c4⟩,c5⟩:=hc;unfold Zf;rw[if_neg (by omega),if_neg (by omega),if_pos hk,hn];simp only;rw[if_pos (by simp[c1,c2,c3.1,c3.2])]
   cases h
  cases h
 cases h
def Vu(d1:Qq)(l1:QD)(q n:Nat):QM:=l1.Qo.foldl Zf ⟨d1,l1,⟨q,n-q,if 0<n-q then[(q,n-q)]else[]⟩,[],[],[],0,0⟩
theorem Zt{d:Qq}{at' kind mark j:Nat}{t x:List UInt8}(h:∀i,i<j→d.told (at'+i)=.data (JZ d.size kind mark (t.drop (i*(d.size-18))) (i==0)) false)
  (hj:j<Qf d.size t.length)(a:∃tu,d.told (at'+j)=.data x tu)(hx:J4 x=none)
  (hs:19≤d.size)(hs2:d.size≤4096)(hk:0<kind)(hk2:kind<256)(hm:mark<2^64)(ht:t.length≤2^30)(h0:0<t.length)
  (ho:d.off=false)(hl:at'+Qf d.size t.length≤d.Qk.length):∀(k i:Nat)(head:P7),i+k=d.Qk.length-at'→i≤j→(0<i→head=⟨kind,mark,t.length,true,t.take (d.size-18)⟩)→
  (Va d at' k i head (t.take (i*(d.size-18)))).1=2∨(Va d at' k i head (t.take (i*(d.size-18)))).1=8
 |0,i,head,hk',hi,_=>by omega
 |k+1,i,head,hk',hi,hh=>by
  by_cases hij:i=j
  ·subst hij;obtain⟨tu,a⟩:=a;have hr:Vh d (at'+i)=(0,x):=by
    unfold Vh;rw[if_neg (by omega),if_neg (by rw[ho];simp),a]
   unfold Va;simp only[hr,hx];split
   ·exact .inl rfl
   exact .inr rfl
  obtain⟨n1,n2⟩:=YF hs hs2 ht;have n2:=n2 h0;have a1:i<Qf d.size t.length:=by omega
  have a0:i*(d.size-18)<t.length:=by
   have:i*(d.size-18)≤(Qf d.size t.length-1)*(d.size-18):=Nat.mul_le_mul_right _ (by omega);omega
  have f:(i+1)*(d.size-18)<t.length:=by
   have:(i+1)*(d.size-18)≤(Qf d.size t.length-1)*(d.size-18):=Nat.mul_le_mul_right _ (by omega);omega
  have hr:Vh d (at'+i)=(0,JZ d.size kind mark (t.drop (i*(d.size-18))) (i==0)):=by
   unfold Vh;rw[if_neg (by omega),if_neg (by rw[ho];simp),h i (by omega)]
  have m:J4 (JZ d.size kind mark (t.drop (i*(d.size-18))) (i==0))=some ⟨kind,mark,t.length-i*(d.size-18),i==0,(t.drop (i*(d.size-18))).take (d.size-18)⟩:=by
   have:=ZG (size:=d.size) (kind:=kind) (mark:=mark) (b:=t.drop (i*(d.size-18))) (first:=i==0) hs hk hk2 hm (by rw[List.length_drop];omega) (.inr (fun e=>by have:=congrArg List.length e;rw[List.length_drop]at this;simp at this;omega));rw[List.length_drop]at this;exact this
  have o:=LJ (size:=d.size) (mark:=mark) (b:=t.drop (i*(d.size-18))) (first:=i==0) hk hk2;have c:t.take (i*(d.size-18))++(t.drop (i*(d.size-18))).take (d.size-18)=t.take ((i+1)*(d.size-18)):=by
   rw[←List.take_add,Nat.add_mul,Nat.one_mul]
  have l:(t.take (i*(d.size-18))).length=i*(d.size-18):=by rw[List.length_take];omega
  unfold Va;simp only[hr,o,m];by_cases hi0:i=0
  ·subst hi0;simp only[Nat.zero_mul,List.take_zero,List.drop_zero,List.nil_append,Nat.sub_zero,Nat.zero_add,Nat.one_mul]at c f ⊢;simp only[Bool.false_eq_true,and_false,if_false,Nat.lt_irrefl,false_and,if_true,beq_self_eq_true,Bool.true_eq_false];rw[if_neg (by rw[List.length_take];omega)];have:=Zt h hj a hx hs hs2 hk hk2 hm ht h0 ho hl k 1 ⟨kind,mark,t.length,true,t.take (d.size-18)⟩ (by omega) (by omega) (fun _=>rfl);rw[Nat.one_mul]at this;exact this
  have n:=hh (by omega);subst n;have hb:(i==0)=false:=by simpa using hi0
  have g:¬(0<i∧((i==0)=true∨kind≠kind∨mark≠mark∨t.length-i*(d.size-18)+(t.take (i*(d.size-18))).length≠t.length)):=by
   rintro⟨_,h|h|h|h⟩
   ·rw[hb]at h;cases h
   ·exact h rfl
   ·exact h rfl
   rw[l]at h;omega
  simp only[hi0,false_and,if_false];rw[if_neg g,c];rw[if_neg (by rw[List.length_take];omega)];exact Zt h hj a hx hs hs2 hk hk2 hm ht h0 ho hl k (i+1) _ (by omega) (by omega) (fun _=>rfl)
variable {at' j kind mark:Nat}
theorem I7{t x:List UInt8}(h:∀i,i<j→d.told (at'+i)=.data (JZ d.size kind mark (t.drop (i*(d.size-18))) (i==0)) false)
  (hj:j<Qf d.size t.length)(hjt:∃tu,d.told (at'+j)=.data x tu)(hx:J4 x=none)
  (hs:19≤d.size)(hs2:d.size≤4096)(hk:0<kind)(hk2:kind<256)(hm:mark<2^64)(ht:t.length≤2^30)(h0:0<t.length)
  (ho:d.off=false)(hl:at'+Qf d.size t.length≤d.Qk.length):(KE d at').1=2∨(KE d at').1=8:=by
 have hp:=JQ hs hs2 ht;unfold KE;rw[if_neg (by omega)];have:=Zt h hj hjt hx hs hs2 hk hk2 hm ht h0 ho hl (d.Qk.length-at') 0 ⟨0,0,0,false,[]⟩ (by omega) (by omega) (fun h=>absurd h (by omega));rw[Nat.zero_mul,List.take_zero]at this;exact this
theorem DV{p:Nat→Prop}:∀n,p n→∃j,j≤n∧p j∧∀i,i<j→¬p i:=by
 intro n
 induction n using Nat.strongRecOn with
 |_ n ih=>
  intro hn;by_cases h:∃m,m<n∧p m
  ·obtain⟨m,hm,pm⟩:=h;obtain⟨j,h1,h2,h3⟩:=ih m hm pm;exact⟨j,by omega,h2,h3⟩
  exact⟨n,nR,hn,fun i hi hp=>h ⟨i,hi,hp⟩⟩
def Gc(d:Qq)(m:Nat)(s:List UInt8):Prop:=d.told m=.data s false∨∃bit,bit<8*d.size∧d.told m=.data (Mf s bit) true
def Xb(d:Qq)(m:Nat):Prop:=∃b,d.told m=.data b true
theorem Gc.same{m:Nat}{s:List UInt8}(h:Gc d m s)(hz:d'.size=d.size)(ht:d'.told m=d.told m):Gc d' m s:=by
 rcases h with h|⟨bit,h1,h2⟩
 ·exact .inl (ht.trans h)
 exact .inr ⟨bit,by rw[hz];exact h1,ht.trans h2⟩
structure Vz (d:Qq) (lo:Nat) (x:Qx) (t:List UInt8):Prop where
 intro'::
 Bq:∃a mark:Nat,x=⟨a,Qf d.size t.length,t.length,mark⟩∧(∀i,i<Qf d.size t.length→Gc d (a+i) (JZ d.size 83 mark (t.drop (i*(d.size-18))) (i==0)))∧mark<2^63∧lo≤a∧a+Qf d.size t.length≤d.Qk.length
 some:0<t.length
 Yp:t.length≤1048576
variable {x:Qx}
theorem Vz.of{t:List UInt8}(h:Cq d lo x t):Vz d lo x t:=by
 obtain⟨⟨a,mark,h1,h2,h3,h4,h5⟩,h6,h7⟩:=h;exact⟨⟨a,mark,h1,fun i hi=>.inl (h2 i hi),h3,h4,h5⟩,h6,h7⟩
theorem Vz.sure{t:List UInt8}(h:Vz d lo x t)(hL:d.V2 d')(ht:∀k,JS x k→d'.told k=d.told k):Vz d' lo x t:=by
 obtain⟨⟨a,mark,h1,h2,h3,h4,h5⟩,h6,h7⟩:=h;refine⟨⟨a,mark,by rw[hL.1];exact h1,fun i hi=> ?_,h3,h4,by rw[hL.1,hL.2.1];exact h5⟩,h6,h7⟩;rw[hL.1]at hi ⊢;refine(h2 i hi).same hL.1 (ht _ ?_);unfold JS;rw[h1];simp only;omega
theorem Vz.sec{t:List UInt8}(h:Vz d lo x t)(hk:JS x k):lo≤k∧k<d.Qk.length:=by
 obtain⟨⟨a,mark,h1,h2,h3,h4,h5⟩,h6,h7⟩:=h;unfold JS at hk;rw[h1]at hk;simp only at hk;omega
theorem Vz.keep{t:List UInt8}(h:Vz d lo x t)(k:Vk lo d d'):Vz d' lo x t:=
 h.sure k.1 fun m hm=>k.2 m (h.sec hm).1 (h.sec hm).2
theorem Vz.Mi{t:List UInt8}(h:Vz d lo x t)(hs:19≤d.size)(hs2:d.size≤4096)(ho:d.off=false):
  (Jj d x=(0,t)∧∀k,JS x k→¬Xb d k)∨(Jj d x=(8,[])∧∃k,JS x k∧Xb d k):=by
 obtain⟨⟨a,mark,h1,h2,h3,h4,h5⟩,h6,h7⟩:=h;by_cases hT:∃i,i<Qf d.size t.length∧Xb d (a+i)
 ·right;obtain⟨i0,u⟩:=hT;obtain⟨j,_,⟨hj,n⟩,o⟩:=DV (p:=fun i=>i<Qf d.size t.length∧Xb d (a+i)) i0 u;have f:∀i,i<j→d.told (a+i)=.data (JZ d.size 83 mark (t.drop (i*(d.size-18))) (i==0)) false:=by
   intro i hi;rcases h2 i (by omega)with g|⟨bit,_,g⟩
   ·exact g
   exact absurd ⟨by omega,_,g⟩ (o i hi)
  obtain⟨bit,hbit,hflip⟩:∃bit,bit<8*d.size∧d.told (a+j)=.data (Mf (JZ d.size 83 mark (t.drop (j*(d.size-18))) (j==0)) bit) true:=by
   rcases h2 j hj with g|g
   ·obtain⟨b,hb⟩:=n;rw[g]at hb;injection hb with _ hb;cases hb
   exact g
  have q:=ZZ (size:=d.size) (kind:=83) (mark:=mark) (b:=t.drop (j*(d.size-18))) (first:=j==0) (by omega);obtain⟨p,c,r,c',e1,e2,s⟩:=N8 (b:=JZ d.size 83 mark (t.drop (j*(d.size-18))) (j==0)) (bit:=bit) (by rw[q];omega);obtain⟨n1,n2⟩:=YF hs hs2 (bytes:=t.length) (by omega);have n2:=n2 h6;have a0:j*(d.size-18)<t.length:=by
   have:j*(d.size-18)≤(Qf d.size t.length-1)*(d.size-18):=Nat.mul_le_mul_right _ (by omega);omega
  have m:=ZG (size:=d.size) (kind:=83) (mark:=mark) (b:=t.drop (j*(d.size-18))) (first:=j==0) hs (by omega) (by omega) (by omega) (by rw[List.length_drop];omega) (.inr (fun e=>by have:=congrArg List.length e;rw[List.length_drop]at this;simp at this;omega));rw[e1]at m;have l:=Ut s m;rw[←e2]at l;have hg:=I7 (d:=d) (at':=a) (kind:=83) (mark:=mark) (j:=j) (t:=t) f hj ⟨true,hflip⟩ l hs hs2 (by omega) (by omega) (by omega) (by omega) h6 ho h5;refine⟨?_,a+j, ?_,n⟩
  ·subst h1;unfold Jj;rw[if_neg (by simp)];simp only[Int.toNat_natCast];cases hgp:KE d a with
   |mk e rr=>
    rw[hgp]at hg;simp only at hg;rcases hg with rfl|rfl<;>rfl
  unfold JS;rw[h1];simp only;omega
 left;have hH:OL d a 83 mark t:=by
  intro i hi;rcases h2 i hi with g|⟨bit,_,g⟩
  ·exact g
  exact absurd ⟨i,hi,_,g⟩ hT
 refine⟨Wc hH h1 hs hs2 (by omega) (by omega) h6 ho h5,fun k hk hkt=>hT ⟨k-a, ?_, ?_⟩⟩
 ·unfold JS at hk;rw[h1]at hk;simp only at hk;omega
 have:a+(k-a)=k:=by
  unfold JS at hk;rw[h1]at hk;simp only at hk;omega
 rw[this];exact hkt
theorem Lp(h:Q4 d=(0,d')):Vk lo d d':=⟨(ZO h).1,fun m _ hm=>Zw h m hm⟩
structure JH (s:QM) (lo E:Nat) (ts:List (Qj × List UInt8)):Prop where
 log:JU s.d s.log lo
 map:JC s.map lo s.d.Qk.length
 Qo:s.log.Qo.length≤1000000
 QA:s.QA<1048576
 epoch:s.epoch≤s.log.epoch
 ep:s.log.epoch≤E
 Xv:∀x∈s.notes,Qs x.1=true∧x.2.length≤3000
 Xk:∀x∈s.marks,x.length≤3000
 VL:Yx s.notes
 Vn:Xa s.Qc
 side:V3 (fun a b=>a.1=b.1∧Vz s.d lo a.2 b.2) s.Qc ts
 right:∀x∈s.Qc,Qs x.1.1=true∧Qs x.1.2=true
 Yp:s.d.Qk.length≤65536
 apart:s.Qc.Pairwise fun x y=>∀k,JS x.2 k→¬JS y.2 k
 used:∀x∈s.Qc,∀k,JS x.2 k→¬Jp s.map.free k
theorem Uk{v:Int}(h:Qs v=true):(Qi [v]).length≤21:=by
 unfold Qs at h;simp only[Bool.and_eq_true,decide_eq_true_eq]at h;have:=Lib.itoa_length_le v (by omega) (by omega);unfold Qi;rw[List.map_cons,List.map_nil,Lib.join_one];exact this
theorem VW(hN:∀x∈s.notes,Qs x.1=true∧x.2.length≤3000)(hM:∀m∈s.marks,m.length≤3000)(hS:∀x∈s.Qc,Kf x):∀r∈Qn s,r.2.length≤4000:=by
 intro r hr;unfold Qn at hr;rcases List.mem_append.1 hr with hr|hr
 ·rcases List.mem_append.1 hr with hr|hr
  ·obtain⟨x,hx,rfl⟩:=List.mem_map.1 hr;obtain⟨h1,h2⟩:=hN x hx;have:=Uk h1;simp only[List.length_append,List.length_cons];omega
  obtain⟨x,hx,rfl⟩:=List.mem_map.1 hr;exact Zp (h:=hS x hx)
 obtain⟨x,hx,rfl⟩:=List.mem_map.1 hr;have:=hM x hx;simp only;omega
variable {ts:List (Qj × List UInt8)}
theorem JH.U6(h:JH s lo E ts):∀x∈s.Qc,Kf x:=by
 intro x hx;obtain⟨y,hy,e,⟨a,mark,h1,h2,h3,h4,h5⟩,h6,h7⟩:=h.side.mem x hx;obtain⟨r1,r2⟩:=h.right x hx;have:=h.Yp;refine⟨r1,r2, ?_⟩;rw[h1];simp only;omega
theorem JH.CB(h:JH s lo E ts):∀r∈Qn s,r.2.length≤4000:=VW h.Xv h.Xk h.U6
variable {E':Nat}
theorem JH.next(h:JH s lo E ts)(hd:s.d.V2 s'.d)(hst:∀x∈s.Qc,∀t,Vz s.d lo x.2 t→Vz s'.d lo x.2 t)(hlog:JU s'.d s'.log lo)(hmap:JC s'.map lo s'.d.Qk.length)
  (hr:s'.log.Qo.length≤1000000)(hf:∀k,Jp s'.map.free k→Jp s.map.free k)(hp:s'.QA<1048576)(he:s'.epoch≤s'.log.epoch)(hE:s'.log.epoch≤E')
  (ht:∀x∈s'.notes,Qs x.1=true∧x.2.length≤3000)(hn:Yx s'.notes)(hs:s'.Qc=s.Qc)(hm:∀x∈s'.marks,x.length≤3000):JH s' lo E' ts:=by
 refine⟨hlog,hmap,hr,hp,he,hE,ht,hm,hn,by rw[hs];exact h.Vn, ?_,by rw[hs];exact h.right,by rw[hd.2.1];exact h.Yp,by rw[hs];exact h.apart,fun x hx k hk hfk=> ?_⟩
 ·rw[hs];exact h.side.mono fun x hx y hxy=>⟨hxy.1,hst x hx _ hxy.2⟩
 rw[hs]at hx;exact h.used x hx k hk (hf k hfk)
theorem JH.le(h:JH s lo E ts)(hE:E≤E'):JH s lo E' ts:=
 h.next (Qq.V2.refl _) (fun _ _ _ g=>g) h.log h.map h.Qo (fun _ g=>g) h.QA h.epoch (Nat.le_trans h.ep hE) h.Xv h.VL rfl h.Xk
theorem Pa(h:JH s lo E ts)(hE:E+2<2^39)(n:Qj)(b:List UInt8):
  ∃e s',Q6 s n b=(e,s')∧Q2 (KG (E+2)) 12884967424 s.d s'.d∧((e≠0∧JH s' lo (E+2) ts)∨(e=0∧QC ts n=none∧JH s' lo (E+2) (JL n b ts))):=by
 have S:=h.CB;have q:=h.log;have a0:=h.ep;have J:=h.epoch;have j:=h.Yp;have h2:JH s lo (E+2) ts:=h.le (by omega);unfold Q6;split
 ·exact⟨1,s,rfl,Q2.refl _,.inl ⟨by decide,h2⟩⟩
 rename_i hc;split
 ·exact⟨7,s,rfl,Q2.refl _,.inl ⟨by decide,h2⟩⟩
 rename_i hg;have z:=FC (by simpa using hg);have D:b.length≤1048576:=by omega
 have V:1≤b.length:=by omega
 have F:Qs n.1=true:=by cases hh:Qs n.1<;>simp_all
 have C:Qs n.2=true:=by cases hh:Qs n.2<;>simp_all
 rcases RG (c:=Qf s.d.size b.length) h.map with⟨e,he,hne⟩|⟨a,m',he,hc1,hm',ha1,ha2,hf1,hf2⟩
 ·rw[he];obtain⟨e',rfl⟩:∃e',e=e'+1:=⟨e-1,by omega⟩;exact⟨_,_,rfl,Q2.refl _,.inl ⟨by omega,h2⟩⟩
 rw[he];simp only;rcases Fy (s:={ s with map:=m' }) (lo:=lo) q S h.QA J with⟨d1,l1,e1,hl1,hk1,hep1,hep2⟩|⟨d1,l1,p,mark,e1,hl1,hk1,hep1,hep2,hp,hmk⟩
 ·obtain⟨r1,n1⟩:=RL (s:={ s with map:=m' }) (lo:=lo) q j (by simp only;omega) h.Qo e1;rw[e1];obtain⟨g1,g2⟩:=Sv hm' hf1 hf2;simp only at hep1 hep2 r1 n1;exact⟨_,_,rfl,(r1.mono fun b hb=>hb.le (by omega)).le (by omega),.inl ⟨by decide,h.next hk1.1 (fun _ _ _ g=>g.keep hk1) hl1 (by rw[hk1.1.2.1];exact g1) n1 g2 h.QA (by simp only;omega) (by simp only;omega) h.Xv h.VL rfl h.Xk⟩⟩
 obtain⟨r1,n1⟩:=RL (s:={ s with map:=m' }) (lo:=lo) q j (by simp only;omega) h.Qo e1;rw[e1];simp only[Int.toNat_natCast];simp only at hep1 hep2 hk1 r1 n1;have v:d1.size=s.d.size:=hk1.1.1;have w:d1.Qk.length=s.d.Qk.length:=hk1.1.2.1;obtain⟨d2,B,l⟩:=Xi (d:=d1) (at':=a) (kind:=83) (mark:=mark) (b:=b) hl1.s1 (by decide) hl1.on (by rw[v];exact hc1) (by rw[v,w];exact ha2);obtain⟨_,R,U⟩:=Oy B l.1;have r2:=Zk (P:=KG (E+2)) (fun i=>Ov (by decide) (by omega) (fun hh=>by cases hh)) (by rw[w];exact j) B;rw[B];simp only;have H:∀x∈JL n (⟨a,Qf s.d.size b.length,b.length,mark⟩:Qx) s.Qc,Kf x:=by
  intro x hx;rcases VR hx with rfl|hx
  ·exact⟨F,C,by simp only;omega,D,by simp only;omega,by simp only;omega⟩
  exact h.U6 x hx
 have I:=VW (s:={ s with d:=d2,log:=l1,map:=m',epoch:=l1.epoch,QA:=p,Qc:=JL n ⟨a,Qf s.d.size b.length,b.length,mark⟩ s.Qc }) h.Xv h.Xk H;have K:(Ka n (⟨a,Qf s.d.size b.length,b.length,mark⟩:Qx)).2.length≤4000:=Zp (x:=(n,⟨a,Qf s.d.size b.length,b.length,mark⟩)) ⟨F,C,by simp only;omega,D,by simp only;omega,by simp only;omega⟩;obtain⟨d3,l3,M,u,⟨N,O⟩,f⟩:=Oc (s:={ s with d:=d2,log:=l1,map:=m',epoch:=l1.epoch,QA:=p,Qc:=JL n ⟨a,Qf s.d.size b.length,b.length,mark⟩ s.Qc }) (was:={ s with d:=d2,log:=l1,map:=(JF m' a (Qf s.d.size b.length)).2,epoch:=l1.epoch,QA:=p }) (lo:=lo) (hl1.like l) K I;simp only at u N O;have o:s.d.V2 d3:=(hk1.1.trans l).trans u.1;have L:∀x∈s.Qc,∀t,Vz s.d lo x.2 t→Vz d3 lo x.2 t:=by
  intro x hx t hS;have hu:=h.used x hx;refine Vz.keep ((hS.keep hk1).sure l fun m hm=>U m ?_) u;apply Decidable.byContradiction;intro hcon;exact hu m hm (hf2 m (by omega) (by rw[v]at hcon;omega))
 have r:∀e3 s3,Qy { s with d:=d2,log:=l1,map:=m',epoch:=l1.epoch,QA:=p,Qc:=JL n ⟨a,Qf s.d.size b.length,b.length,mark⟩ s.Qc } { s with d:=d2,log:=l1,map:=(JF m' a (Qf s.d.size b.length)).2,epoch:=l1.epoch,QA:=p } (Ka n ⟨a,Qf s.d.size b.length,b.length,mark⟩)=(e3,s3)→
   Q2 (KG (E+2)) 12884967424 s.d s3.d∧s3.log.Qo.length≤1000000:=by
  intro e3 s3 hlg;obtain⟨r3,n3⟩:=Xj (lo:=lo) (hl1.like l) (by simp only;rw[l.2.1,w];exact j) (by simp only;omega) n1 K hlg;simp only at r3;exact⟨((r1.mono fun b hb=>hb.le (by omega)).trans r2 nR).trans (r3.mono fun b hb=>hb.le (by omega)) (by omega),n3⟩
 have G:QC ts n=none:=by
  cases hh:QC ts n with
  |none=>rfl
  |some t=>
   exfalso;have hm:=Vt hh;obtain⟨x,hx,Q,_⟩:=h.side.mem' _ hm;exact z (List.mem_map.2 ⟨x,hx,Q⟩)
 rcases f with f|f
 ·obtain⟨A,n3⟩:=r _ _ f;refine⟨0,_,f,A,.inr ⟨rfl,G, ?_⟩⟩;have T:Vz d3 lo ⟨a,Qf s.d.size b.length,b.length,mark⟩ b:=by
   refine Vz.of ⟨⟨a,mark,by rw[o.1],(R.keep u.1.1 fun m g1 g2=>u.2 m (by omega) (by rw[l.2.1,w];rw[l.1,v]at g2;omega)),by omega,ha1,by rw[o.1,o.2.1];exact ha2⟩,V,D⟩
  have W:V3 (fun a b=>a.1=b.1∧Vz d3 lo a.2 b.2) (JL n ⟨a,Qf s.d.size b.length,b.length,mark⟩ s.Qc) (JL n b ts):=
   V3.put (h.side.mono fun x hx y hxy=>⟨hxy.1,L x hx _ hxy.2⟩) (fun _ _ g=>g.1) ⟨rfl,T⟩
  refine⟨M,by rw[o.2.1];exact hm',n3,hp,by simp only;omega,by simp only;omega,h.Xv,h.Xk,h.VL,Z3 h.Vn,W,fun x hx=> ?_,by rw[o.2.1];exact j, ?_, ?_⟩
  ·rcases VR hx with rfl|hx
   ·exact⟨F,C⟩
   exact h.right x hx
  ·refine(List.Perm.pairwise_iff (fun {x y} g k h1 h2=>g k h2 h1) (Sa z)).2 ?_;rw[List.pairwise_cons];refine⟨fun y hy k h1 h2=>h.used y hy k h2 (hf2 k ?_ ?_),h.apart⟩
   ·unfold JS at h1;simp only at h1;omega
   unfold JS at h1;simp only at h1;omega
  intro x hx k hk hfk;simp only at hfk;rw[hf1]at hfk;rcases VR hx with rfl|hx
  ·unfold JS at hk;simp only at hk;exact hfk.2 (by omega)
  exact h.used x hx k hk hfk.1
 obtain⟨A,n3⟩:=r _ _ f;refine⟨5,_,f,A,.inl ⟨by decide, ?_⟩⟩;obtain⟨g1,g2⟩:=Sv hm' hf1 hf2;exact h.next o L M (by rw[o.2.1];exact g1) n3 g2 hp (by simp only;omega) (by simp only;omega) h.Xv h.VL rfl h.Xk
variable {s1:QM}
theorem MV{r:QN}(h:JH s lo E ts)(hE:E+2<2^39)(hd:s1.d=s.d)(hl:s1.log=s.log)(hm:s1.map=s.map)(hs:s1.Qc=s.Qc)(hp:s1.QA=s.QA)(he:s1.epoch=s.epoch)
  (ht:∀x∈s1.notes,Qs x.1=true∧x.2.length≤3000)(hn:Yx s1.notes)(hk:∀x∈s1.marks,x.length≤3000)(hr:r.2.length≤4000):
  ∃d' l',(Qy s1 s r=(0,{ s1 with d:=d',log:=l' })∨Qy s1 s r=(5,{ s with d:=d',log:=l' }))∧Q2 (KG (E+1)) 8589934592 s.d d'∧JH { s1 with d:=d',log:=l' } lo (E+1) ts∧JH { s with d:=d',log:=l' } lo (E+1) ts:=by
 have i:∀x∈s1.Qc,Kf x:=by rw[hs];exact h.U6
 have a1:=h.ep;have a0:=h.epoch;have e:JU s1.d s1.log lo:=by rw[hd,hl];exact h.log
 obtain⟨d',l',hi,c,⟨e1,e2⟩,a⟩:=Oc (s:=s1) (was:=s) (lo:=lo) e hr (VW ht hk i);rw[hl]at e1 e2;rw[hd]at c;have f:Q2 (KG (E+1)) 8589934592 s.d d'∧l'.Qo.length≤1000000:=by
  rcases a with a|a
  ·obtain⟨r1,n1⟩:=Xj (lo:=lo) e (by rw[hd];exact h.Yp) (by rw[hl];omega) (by rw[hl];exact h.Qo) hr a;rw[hd,hl]at r1;exact⟨r1.mono fun b hb=>hb.le (by omega),n1⟩
  obtain⟨r1,n1⟩:=Xj (lo:=lo) e (by rw[hd];exact h.Yp) (by rw[hl];omega) (by rw[hl];exact h.Qo) hr a;rw[hd,hl]at r1;exact⟨r1.mono fun b hb=>hb.le (by omega),n1⟩
 refine⟨d',l',a,f.1, ?_, ?_⟩
 ·exact h.next c.1 (fun _ _ _ g=>g.keep c) hi (by simp only;rw[hm,c.1.2.1];exact h.map) f.2 (fun k g=>by simp only at g;rw[hm]at g;exact g) (by simp only;rw[hp];exact h.QA) (by simp only;rw[he];omega) (by simp only;omega) ht hn hs hk
 exact h.next c.1 (fun _ _ _ g=>g.keep c) hi (by simp only;rw[c.1.2.1];exact h.map) f.2 (fun k g=>g) h.QA (by simp only;omega) (by simp only;omega) h.Xv h.VL rfl h.Xk
theorem JH.KH(h:JH s lo E ts):∃d',Q4 s.d=(0,d')∧Q2 (KG E) 1 s.d d'∧JH { s with d:=d' } lo E ts:=by
 obtain⟨d',hf,hL⟩:=Yg h.log.on;have hk:=Lp (lo:=lo) hf;exact⟨d',hf,Oi hf,h.next hL (fun _ _ _ g=>g.keep hk) (h.log.like hL) (by simp only;rw[hL.2.1];exact h.map) h.Qo (fun k g=>g) h.QA h.epoch h.ep h.Xv h.VL rfl h.Xk⟩
theorem V3.filter{α β:Type}{R:α→β→Prop}{p:α→Bool}{q:β→Bool}(hpq:∀a b,R a b→p a=q b){l:List α}{m:List β}(h:V3 R l m):V3 R (l.filter p) (m.filter q):=by
 induction h with
 |nil=>exact .nil
 |cons hr _ ih=>
  rw[List.filter_cons,List.filter_cons,hpq _ _ hr];split
  ·exact .cons hr ih
  exact ih
theorem FT{α:Type}{R:α→α→Prop}(hs:∀x y,R x y→R y x){l:List α}(h:l.Pairwise R){x y:α}(hx:x∈l)(hy:y∈l)(hne:x≠y):R x y:=by
 obtain⟨i,hi,rfl⟩:=List.mem_iff_getElem.1 hx;obtain⟨j,hj,rfl⟩:=List.mem_iff_getElem.1 hy;have hp:=List.pairwise_iff_getElem.1 h;rcases Nat.lt_trichotomy i j with hij|hij|hij
 ·exact hp i j hi hj hij
 ·subst hij;exact absurd rfl hne
 exact hs _ _ (hp j i hj hi hij)
theorem Mh{m:Jt}(h:JC m lo n):JC (Jk m x) lo n∧∀k,Jp (Jk m x).free k→Jp m.free k∨JS x k:=by
 unfold Jk;split
 ·exact⟨h,fun k g=>.inl g⟩
 by_cases hg:(JF m x.at'.toNat x.len).1=0
 ·obtain⟨g1,g2⟩:=UL h hg;refine⟨g1,fun k hk=> ?_⟩;rcases(g2 k).1 hk with g|g
  ·exact .inl g
  refine .inr ?_;unfold JS;omega
 rw[Mm hg];exact⟨h,fun k g=>.inl g⟩
theorem Ue{lo n:Nat}:∀(l:List (Qj × Qx)) {m:Jt},JC m lo n→JC (l.foldl (fun m y=>Jk m y.2) m) lo n∧∀k,Jp (l.foldl (fun m y=>Jk m y.2) m).free k→Jp m.free k∨∃y∈l,JS y.2 k
 |[],m,h=>⟨h,fun k g=>.inl g⟩
 |x::l,m,h=>by
  obtain⟨h1,h2⟩:=Mh (x:=x.2) h;obtain⟨h3,h4⟩:=Ue l h1;refine⟨h3,fun k hk=> ?_⟩;rcases h4 k hk with g|⟨y,hy,g⟩
  ·rcases h2 k g with g|g
   ·exact .inl g
   exact .inr ⟨x,List.mem_cons_self,g⟩
  exact .inr ⟨y,List.mem_cons_of_mem _ hy,g⟩
theorem M9{r:QN}(h:JH s lo E ts)(hE:E+2<2^39)(p:Qj→Bool)(ns:List (Int × List UInt8))(ht:∀x∈ns,Qs x.1=true∧x.2.length≤3000)(hn:Yx ns)(hr:r.2.length≤4000)
  (gone:List (Qj × Qx))(hgone:∀y∈gone,y∈s.Qc∧p y.1=false):
  ∃d' l',(Qy { s with notes:=ns,Qc:=s.Qc.filter fun y=>p y.1 } s r=(0,{ s with notes:=ns,Qc:=s.Qc.filter fun y=>p y.1,d:=d',log:=l' })∨Qy { s with notes:=ns,Qc:=s.Qc.filter fun y=>p y.1 } s r=(5,{ s with d:=d',log:=l' }))∧
   Q2 (KG (E+1)) 8589934592 s.d d'∧JH { s with notes:=ns,Qc:=s.Qc.filter (fun y=>p y.1),d:=d',log:=l',map:=gone.foldl (fun m y=>Jk m y.2) s.map } lo (E+1) (ts.filter fun y=>p y.1)∧JH { s with d:=d',log:=l' } lo (E+1) ts:=by
 have i:∀x∈s.Qc.filter (fun y=>p y.1),x∈s.Qc:=fun x hx=>(List.mem_filter.1 hx).1
 have n:∀x∈s.Qc.filter (fun y=>p y.1),Kf x:=fun x hx=>h.U6 x (i x hx)
 have a1:=h.ep;have a0:=h.epoch;obtain⟨d',l',hi,f,⟨e1,e2⟩,c⟩:=Oc (s:={ s with notes:=ns,Qc:=s.Qc.filter fun y=>p y.1 }) (was:=s) (lo:=lo) h.log hr (VW ht h.Xk n);simp only at e1 e2 f;have j:Q2 (KG (E+1)) 8589934592 s.d d'∧l'.Qo.length≤1000000:=by
  rcases c with c|c
  ·obtain⟨r1,n1⟩:=Xj (s:={ s with notes:=ns,Qc:=s.Qc.filter fun y=>p y.1 }) (was:=s) (lo:=lo) h.log h.Yp (by show s.log.epoch+1<_;omega) h.Qo hr c;exact⟨r1.mono fun b hb=>hb.le (by show s.log.epoch+1≤_;omega),n1⟩
  obtain⟨r1,n1⟩:=Xj (s:={ s with notes:=ns,Qc:=s.Qc.filter fun y=>p y.1 }) (was:=s) (lo:=lo) h.log h.Yp (by show s.log.epoch+1<_;omega) h.Qo hr c;exact⟨r1.mono fun b hb=>hb.le (by show s.log.epoch+1≤_;omega),n1⟩
 refine⟨d',l',c,j.1, ?_, ?_⟩
 ·obtain⟨g1,g2⟩:=Ue gone h.map;refine⟨hi,by simp only;rw[f.1.2.1];exact g1,j.2,h.QA,by simp only;omega,by simp only;omega,ht,h.Xk,hn,List.Pairwise.filter _ h.Vn, ?_,fun x hx=>h.right x (i x hx),by simp only;rw[f.1.2.1];exact h.Yp,List.Pairwise.filter _ h.apart,fun x hx k hk hfk=> ?_⟩
  ·exact V3.filter (fun a b g=>by rw[g.1]) (h.side.mono fun x hx y hxy=>⟨hxy.1,hxy.2.keep f⟩)
  have l:p x.1=true:=by simpa using(List.mem_filter.1 hx).2
  rcases g2 k hfk with g|⟨y,hy,g⟩
  ·exact h.used x (i x hx) k hk g
  obtain⟨y1,y2⟩:=hgone y hy;have o:x≠y:=fun e=>by rw[e,y2]at l;cases l
  exact FT (R:=fun(x y:Qj × Qx)=>∀k,JS x.2 k→¬JS y.2 k) (fun a b g k h1 h2=>g k h2 h1) h.apart (i x hx) y1 o k hk g
 exact h.next f.1 (fun _ _ _ g=>g.keep f) hi (by simp only;rw[f.1.2.1];exact h.map) j.2 (fun k g=>g) h.QA (by simp only;omega) (by simp only;omega) h.Xv h.VL rfl h.Xk
theorem M7{a b:Int}(h1:Qs a=true)(h2:Qs b=true):(Qi [a,b]).length≤43:=by
 unfold Qs at h1 h2;simp only[Bool.and_eq_true,decide_eq_true_eq]at h1 h2;have g1:=Lib.itoa_length_le a (by omega) (by omega);have g2:=Lib.itoa_length_le b (by omega) (by omega);have e:(Lib.join [Lib.itoa a,Lib.itoa b] [32]).length=(Lib.itoa a).length+(Lib.itoa b).length+1:=by simp[Lib.join];omega
 unfold Qi;rw[List.map_cons,List.map_cons,List.map_nil,e];omega
theorem JH.ok(h:JH s lo E ts)(hE:E+4<549755813888)(hK:s.d.waits.length≤824633720832)(hS:s.Qc.length≤100000)(hN:s.notes.length≤100000)(hM:s.marks.length≤100000):XA s:=by
 have a1:=h.ep;have a0:=h.epoch;have hi:=h.log;have hm:=h.map;refine⟨hi.TY,hi.sz,hi.s1,by omega,hK,by rw[hm.Ky];exact hm,h.Vn,fun x hx=> ?_,h.VL,h.Xv,h.Xk,hS,hN,hM,Nat.le_of_lt h.QA,by omega⟩;refine⟨h.U6 x hx, ?_⟩;obtain⟨y,hy,e,⟨a,mark,h1,h2,h3,h4,h5⟩,h6,h7⟩:=h.side.mem x hx;have:=h.Yp;rw[h1];simp only;omega
theorem TU(hs:KJ n k=true)(hn:n≤65536):∃d s,Wf (JA n k)=(0,d,some s)∧s.d=d∧JH s (n/4) 2 []∧Q2 (KG 2) 8589934592 (JA n k) d∧s.Qc=[]∧s.notes=[]∧s.marks=[]:=by
 obtain⟨d1,d,e1,e2,L1,L,h⟩:=ZQ hs;obtain⟨g1,g2,g3⟩:=Nf hs;have hl:(JA n k).Qk.length=n:=by simp[JA]
 have hz:(JA n k).size=k:=rfl;have r1:=RI (E:=1) (Ui n k 1) (by rw[hl];exact hn) (by omega) (by omega) e1
 have a:JU d1 ⟨0,n/4/2,k,0,1,1,[]⟩ (n/4):=
  ⟨by rw[L1.1,hz];exact g2,by rw[L1.1,hz];exact g3,L1.2.2,by rw[L1.1,hz],rfl,by simp only;omega,by rw[L1.2.1,hl];omega,by simp only;omega,by simp[QD.begin],by simp[QD.begin];omega⟩
 have r2:=Ug a (by rw[L1.2.1,hl];exact hn) (by simp only;omega) e2
 have hi:JU d ⟨0,n/4/2,k,1,2,n/4/2+1,[]⟩ (n/4):=
  ⟨by rw[L.1,hz];exact g2,by rw[L.1,hz];exact g3,L.2.2,by rw[L.1,hz],rfl,by simp only;omega,by rw[L.2.1,hl];omega,by simp only;omega,by simp[QD.begin],by simp[QD.begin];omega⟩
 refine⟨d,_,h,rfl,⟨hi, ?_,by simp,by simp only;omega,by simp only;omega,by simp only;omega,fun x hx=>(by cases hx),fun x hx=>(by cases hx),List.Pairwise.nil,List.Pairwise.nil,.nil,fun x hx=>(by cases hx),by simp only;rw[L.2.1,hl];exact hn,List.Pairwise.nil,fun x hx=>(by cases hx)⟩,r1.trans r2 (by omega),rfl,rfl,rfl⟩;have h0:0<n-n/4:=by omega
 simp only[h0,if_true];refine⟨rfl,by rw[L.2.1,hl],by rw[L.2.1,hl];omega,⟨List.pairwise_singleton _ _,fun e he=>by rw[List.mem_singleton]at he;subst he;simp only;omega⟩,fun e he=>by rw[List.mem_singleton]at he;subst he;rw[L.2.1,hl];simp only;omega⟩
def VU(f:List (Nat × Nat)):Prop:=f.Pairwise fun x y=>x.1+x.2<y.1
def YM(F:List Bool)(a n:Nat)(v:Bool):Bool:=(List.range n).all fun i=>F.getD (a+i) (!v)==v
def Vj(F:List Bool)(a n:Nat):Bool:=decide (1≤n)&&decide (a<F.length)&&decide (n≤F.length-a)
def Vo(F:List Bool)(a:Nat)(v:Bool):Nat→List Bool
 |0=>F
 |k+1=>(Vo F a v k).set (a+k) v
def Yb(F:List Bool)(n:Nat):Option Nat:=(List.range F.length).find? fun a=>Vj F a n&&YM F a n true
def VJ(F:List Bool)(a n:Nat):List Bool:=if Vj F a n&&YM F a n false then Vo F a true n else F
structure RC (m:Jt) (F:List Bool):Prop where
 len:F.length=m.QJ
 tight:VU m.free
 iff:∀i,i<F.length→(F.getD i false=true↔Jp m.free (m.Ky+i))
theorem KP(F:List Bool)(a:Nat)(v:Bool):∀k,(Vo F a v k).length=F.length
 |0=>rfl
 |k+1=>by unfold Vo;rw[List.length_set,KP F a v k]
theorem Us(F:List Bool)(a:Nat)(v:Bool)(i:Nat)(hi:i<F.length)(d:Bool):∀k,(Vo F a v k).getD i d=if a≤i∧i<a+k then v else F.getD i d
 |0=>by unfold Vo;rw[if_neg (by omega)]
 |k+1=>by
  have ih:=Us F a v i hi d k;have hl:=KP F a v k;unfold Vo;rw[List.getD_eq_getElem?_getD]at ih ⊢;by_cases h:i=a+k
  ·subst h;rw[List.getElem?_set_self (by omega),if_pos (by omega)];rfl
  rw[List.getElem?_set_ne (by omega),ih];by_cases h2:a≤i∧i<a+k
  ·rw[if_pos h2,if_pos (by omega)]
  rw[if_neg h2,if_neg (by omega)]
variable {F:List Bool}
theorem Od{v:Bool}(h:a+n≤F.length):YM F a n v=true↔∀i,a≤i→i<a+n→F.getD i false=v:=by
 unfold YM;rw[List.all_eq_true];have e:∀i (hi:i<F.length) (x y:Bool),F.getD i x=F.getD i y:=fun i hi x y=>by
  rw[List.getD_eq_getElem?_getD,List.getD_eq_getElem?_getD,List.getElem?_eq_getElem hi];rfl
 constructor
 ·intro g i h1 h2;have:=g (i-a) (List.mem_range.2 (by omega));rw[Nat.add_sub_cancel' h1]at this;rw[e i (by omega) false (!v)];simpa using this
 intro g i hi;have hi:=List.mem_range.1 hi;rw[e (a+i) (by omega) (!v) false,g (a+i) (by omega) (by omega)];simp
theorem Vm:Vj F a n=true↔1≤n∧a+n≤F.length:=by
 unfold Vj;simp only[Bool.and_eq_true,decide_eq_true_eq];omega
theorem CK{f:List (Nat × Nat)}(ht:VU f)(hn:1≤n)(hf:∀k,a≤k→k<a+n→Jp f k):∃e∈f,e.1≤a∧a+n≤e.1+e.2:=by
 obtain⟨e,he,h1,h2⟩:=hf a nR (by omega);refine⟨e,he,h1, ?_⟩;by_cases h3:a+n≤e.1+e.2
 ·exact h3
 exfalso;obtain⟨e',b,h4,h5⟩:=hf (e.1+e.2) (by omega) (by omega);obtain⟨i,hi,rfl⟩:=List.getElem_of_mem he;obtain⟨j,hj,rfl⟩:=List.getElem_of_mem b;rcases Nat.lt_trichotomy i j with hij|hij|hij
 ·have:=List.pairwise_iff_getElem.1 ht i j hi hj hij;omega
 ·subst hij;omega
 have:=List.pairwise_iff_getElem.1 ht j i hj hi hij;omega
theorem VU.sub{f g:List (Nat × Nat)}(h:VU f)(hs:g.Sublist f):VU g:=List.Pairwise.sublist hs h
theorem Rf{A M B:List (Nat × Nat)}(hA:VU A)(hM:VU M)(hB:VU B)(h1:∀a∈A,∀m∈M,a.1+a.2<m.1)(h2:∀m∈M,∀b∈B,m.1+m.2<b.1)(h3:∀a∈A,∀b∈B,a.1+a.2<b.1):VU (A++M++B):=by
 unfold VU;rw[List.pairwise_append,List.pairwise_append];refine⟨⟨hA,hM,h1⟩,hB,fun x hx y hy=> ?_⟩;rcases List.mem_append.1 hx with hx|hx
 ·exact h3 x hx y hy
 exact h2 x hx y hy
theorem VU.split{A B:List (Nat × Nat)}{x:Nat × Nat}(h:VU (A++x::B)):VU A∧VU B∧(∀a∈A,a.1+a.2<x.1)∧(∀b∈B,x.1+x.2<b.1)∧∀a∈A,∀b∈B,a.1+a.2<b.1:=by
 unfold VU at h;rw[List.pairwise_append,List.pairwise_cons]at h;obtain⟨h1,⟨h2,h3⟩,h4⟩:=h;exact⟨h1,h3,fun a ha=>h4 a ha x (by simp),h2,fun a ha b hb=>h4 a ha b (by simp[hb])⟩
variable {i:Nat}
theorem Ph{f:List (Nat × Nat)}(h:VU f)(hi:i<f.length)(hn:1≤n)(h1:(f.getD i (0,0)).1≤a)(h2:a+n≤(f.getD i (0,0)).1+(f.getD i (0,0)).2):VU (Kl f i a n):=by
 obtain⟨hf,hl⟩:=MD hi;unfold Kl;simp only;generalize f.take i=A at*
 generalize f.drop (i+1)=B at*
 generalize f.getD i (0,0)=x at*
 rw[hf]at h;obtain⟨tA,tB,s1,s2,s3⟩:=h.split;generalize hM:((if x.1<a then[(x.1,a-x.1)]else[])++(if a+n<x.1+x.2 then[(a+n,x.1+x.2-(a+n))]else[]))=M;have c:∀e∈M,x.1≤e.1∧e.1+e.2≤x.1+x.2:=by
  rw[←hM];intro e he;rcases List.mem_append.1 he with he|he
  ·split at he
   ·rw[List.mem_singleton]at he;subst he;simp only;omega
   cases he
  split at he
  ·rw[List.mem_singleton]at he;subst he;simp only;omega
  cases he
 refine Rf tA ?_ tB (fun y hy e he=> ?_) (fun e he b hb=> ?_) s3
 ·rw[←hM];unfold VU;split<;>split<;>simp;omega
 ·have:=s1 y hy;have:=c e he;omega
 have:=s2 b hb;have:=c e he;omega
variable {c:Nat}
theorem GC{m:Jt}(h:JC m lo n)(hs:RC m F)(hc:1≤c):
  (Yb F c=none∧XZ m c=(5,(0,0),m))∨∃a m',Yb F c=some a∧XZ m c=(0,(lo+a,c),m')∧JC m' lo n∧RC m' (Vo F a false c)∧a+c≤F.length∧lo+a+c≤n∧∀k,Jp m'.free k↔Jp m.free k∧¬(lo+a≤k∧k<lo+a+c):=by
 have a1:F.length=n-lo:=by rw[hs.len,h.QJ]
 have a0:=h.le;have d:∀b,Vj F b c=true→YM F b c true=true→∃e∈m.free,e.1≤lo+b∧lo+b+c≤e.1+e.2:=by
  intro b h1 h2;have h1:=Vm.1 h1;rw[Od h1.2]at h2;refine CK hs.tight hc fun k k1 k2=> ?_
  have:=(hs.iff (k-lo) (by omega)).1 (h2 (k-lo) (by omega) (by omega));rw[h.Ky,Nat.add_sub_cancel' (by omega)]at this;exact this
 have o:∀e∈m.free,c≤e.2→lo≤e.1∧Vj F (e.1-lo) c=true∧YM F (e.1-lo) c true=true:=by
  intro e he hce;have q:=h.R6 e he;have h1:1≤c∧(e.1-lo)+c≤F.length:=by omega
  refine⟨q.1,Vm.2 h1,(Od h1.2).2 fun i i1 i2=> ?_⟩;refine(hs.iff i (by omega)).2 ?_;rw[h.Ky];exact⟨e,he,by omega,by omega⟩
 unfold XZ;rw[if_neg (by omega)];cases hf:m.free.findIdx? (fun f=>decide (c≤f.2))with
 |none=>
  refine .inl ⟨?_,rfl⟩;unfold Yb;rw[List.find?_eq_none];intro b hb hbb;simp only[Bool.and_eq_true]at hbb;obtain⟨e,he,e1,e2⟩:=d b hbb.1 hbb.2;rw[List.findIdx?_eq_none_iff]at hf;have:=hf e he;simp at this;omega
 |some i=>
  rw[List.findIdx?_eq_some_iff_getElem]at hf;obtain⟨hi,hp,s⟩:=hf;have hg:m.free.getD i (0,0)=m.free[i]:=JW hi;have l:m.free[i]∈m.free:=List.getElem_mem hi;have t:c≤m.free[i].2:=by simpa using hp
  obtain⟨b1,b2,b3⟩:=o _ l t;have q:=h.R6 _ l;have r:=Vm.1 b2;obtain⟨t1,t2,t3,t4⟩:=Ze (a:=(m.free.getD i (0,0)).1) (n:=c) h.Iq hi hc nR (by rw[hg];omega);have tt:=Ph (a:=(m.free.getD i (0,0)).1) (n:=c) hs.tight hi hc nR (by rw[hg];omega);rw[hg]at t1 t2 t3 t4 tt;have p:lo+(m.free[i].1-lo)=m.free[i].1:=by omega
  refine .inr ⟨m.free[i].1-lo,{ m with free:=Kl m.free i m.free[i].1 c }, ?_,by simp only[hg,p],⟨h.Ky,h.QJ,h.le,t1,fun e he=> ?_⟩,⟨by rw[KP];exact hs.len,tt,fun j hj=> ?_⟩,r.2,by omega,by rw[p];exact t2⟩
  ·unfold Yb;rw[List.find?_range_eq_some];refine⟨by simp[b2,b3],List.mem_range.2 (by omega),fun j hj=> ?_⟩;cases hx:(Vj F j c&&YM F j c true)with
   |false=>rfl
   |true=>
    exfalso;simp only[Bool.and_eq_true]at hx;obtain⟨e,he,e1,e2⟩:=d j hx.1 hx.2;obtain⟨k,hk,rfl⟩:=List.getElem_of_mem he;rcases Nat.lt_trichotomy i k with hik|hik|hik
    ·have:=List.pairwise_iff_getElem.1 hs.tight i k hi hk hik;omega
    ·subst hik;omega
    have:=s k hik;simp at this;omega
  ·obtain⟨e',u,h5,h6⟩:=t4 e he;have:=h.R6 e' u;omega
  rw[KP]at hj;rw[Us F _ _ j hj];show _↔Jp (Kl m.free i m.free[i].1 c) (m.Ky+j);rw[t2,←hs.iff j hj,h.Ky];by_cases hc2:m.free[i].1-lo≤j∧j<m.free[i].1-lo+c
  ·rw[if_pos hc2];simp;omega
  rw[if_neg hc2];constructor
  ·intro g;exact⟨g,by omega⟩
  intro g;exact g.1
theorem LC{m:Jt}(h:JC m lo n)(ht:VU m.free)(hc:1≤c):VU (JF m a c).2.free:=by
 unfold JF;split
 ·exact ht
 simp only;obtain⟨m1,m2,m3⟩:=Yi (at':=a) h;generalize hI:Vg m a=i at*
 split
 ·exact ht
 rename_i hno;simp only;have hA:∀j (hj:j<m.free.length),j<i→m.free[j].1+m.free[j].2≤a:=fun j hj hji=>m2 _ (List.mem_take_iff_getElem.2 ⟨j,by omega,rfl⟩)
 have b:=fun x y hx hy hxy=>List.pairwise_iff_getElem.1 ht x y hx hy hxy
 have d:∀e∈m.free.take (if 0<i∧(m.free.getD (i-1) (0,0)).1+(m.free.getD (i-1) (0,0)).2=a then i-1 else i),e.1+e.2<(if 0<i∧(m.free.getD (i-1) (0,0)).1+(m.free.getD (i-1) (0,0)).2=a then(m.free.getD (i-1) (0,0)).1 else a):=by
  intro e he;by_cases hb:0<i∧(m.free.getD (i-1) (0,0)).1+(m.free.getD (i-1) (0,0)).2=a
  ·rw[if_pos hb]at he ⊢;obtain⟨j,hj,rfl⟩:=List.mem_take_iff_getElem.1 he;rw[JW (by omega:i-1<m.free.length)];exact b j (i-1) (by omega) (by omega) (by omega)
  rw[if_neg hb]at he ⊢;obtain⟨j,hj,rfl⟩:=List.mem_take_iff_getElem.1 he;have h1:=hA j (by omega) (by omega);by_cases hji:j=i-1
  ·subst hji;have h2:¬m.free[i-1].1+m.free[i-1].2=a:=fun g=>hb ⟨by omega,by rw[JW (by omega:i-1<m.free.length)];exact g⟩
   omega
  have:=b j (i-1) (by omega) (by omega) (by omega);have:=hA (i-1) (by omega) (by omega);omega
 have f:∀j (hj:j<m.free.length),i≤j→a+c≤m.free[j].1:=fun j hj hij=>by
  by_cases hje:j=i
  ·subst hje;by_cases g:m.free[j].1<a+c
   ·exact absurd ⟨hj,by rw[JW hj];exact g⟩ hno
   omega
  have:=b i j (by omega) hj (by omega);by_cases g:m.free[i].1<a+c
  ·exact absurd ⟨by omega,by rw[JW (by omega:i<m.free.length)];exact g⟩ hno
  omega
 generalize hb1:(if 0<i∧(m.free.getD (i-1) (0,0)).1+(m.free.getD (i-1) (0,0)).2=a then i-1 else i)=i1 at*
 have a1:i1≤i:=by rw[←hb1];split<;>omega
 have e1:(if 0<i∧(m.free.getD (i-1) (0,0)).1+(m.free.getD (i-1) (0,0)).2=a then((m.free.getD (i-1) (0,0)).1,(m.free.getD (i-1) (0,0)).2+c)else(a,c))=((if 0<i∧(m.free.getD (i-1) (0,0)).1+(m.free.getD (i-1) (0,0)).2=a then(m.free.getD (i-1) (0,0)).1 else a),a+c-(if 0<i∧(m.free.getD (i-1) (0,0)).1+(m.free.getD (i-1) (0,0)).2=a then(m.free.getD (i-1) (0,0)).1 else a)):=by
  split
  ·rename_i hb;have:=hb.2;congr 1;omega
  congr 1;omega
 have a0:(if 0<i∧(m.free.getD (i-1) (0,0)).1+(m.free.getD (i-1) (0,0)).2=a then(m.free.getD (i-1) (0,0)).1 else a)≤a:=by split<;>omega
 rw[e1];generalize (if 0<i∧(m.free.getD (i-1) (0,0)).1+(m.free.getD (i-1) (0,0)).2=a then(m.free.getD (i-1) (0,0)).1 else a)=s at*
 have key:∀(e2:Nat × Nat)(j:Nat),i≤j→e2.1=s→(∀k (hk:k<m.free.length),j≤k→e2.1+e2.2<m.free[k].1)→VU (m.free.take i1++e2::m.free.drop j):=by
  intro e2 j hij h1 h2;have:m.free.take i1++e2::m.free.drop j=m.free.take i1++[e2]++m.free.drop j:=by simp
  rw[this];refine Rf (ht.sub (List.take_sublist _ _)) (List.pairwise_singleton _ _) (ht.sub (List.drop_sublist _ _)) (fun x hx y hy=> ?_) (fun x hx y hy=> ?_) (fun x hx y hy=> ?_)
  ·rw[List.mem_singleton]at hy;subst hy;rw[h1];exact d x hx
  ·rw[List.mem_singleton]at hx;subst hx;obtain⟨k,hk,rfl⟩:=List.mem_drop_iff_getElem.1 hy;exact h2 _ _ (by omega)
  obtain⟨p,hp,rfl⟩:=List.mem_take_iff_getElem.1 hx;obtain⟨k,hk,rfl⟩:=List.mem_drop_iff_getElem.1 hy;exact b p _ (by omega) (by omega) (by omega)
 by_cases hon:i<m.free.length∧(m.free.getD i (0,0)).1=a+c
 ·rw[if_pos hon,if_pos hon];refine key _ _ (by omega) rfl fun k hk hik=> ?_
  have:=b i k (by omega) hk (by omega);rw[JW hon.1]at hon ⊢;simp only;omega
 rw[if_neg hon,if_neg hon];refine key _ _ nR rfl fun k hk hik=> ?_
 have h0:=f i (by omega) nR;have h1:m.free[i].1≠a+c:=fun g=>hon ⟨by omega,by rw[JW (by omega:i<m.free.length)];exact g⟩
 simp only;by_cases hki:k=i
 ·subst hki;omega
 have:=b i k (by omega) hk (by omega);omega
theorem Ts{m:Jt}(h:JC m lo n)(hs:RC m F)(hc:1≤c)(h2:a+c≤F.length)(hu:∀k,lo+a≤k→k<lo+a+c→¬Jp m.free k):
  (JF m (lo+a) c).1=0∧JC (JF m (lo+a) c).2 lo n∧RC (JF m (lo+a) c).2 (VJ F a c)∧VJ F a c=Vo F a true c∧∀k,Jp (JF m (lo+a) c).2.free k↔Jp m.free k∨(lo+a≤k∧k<lo+a+c):=by
 have a2:F.length=n-lo:=by rw[hs.len,h.QJ]
 have a0:=h.le;have hg:(JF m (lo+a) c).1=0:=by
  unfold JF;have ho:X6 m (lo+a) c=true:=by
   unfold X6;simp only[Bool.and_eq_true,decide_eq_true_eq];have:=h.QJ;have:=h.Ky;omega
  rw[ho,if_neg (by simp)];simp only;obtain⟨m1,m2,m3⟩:=Yi (at':=lo+a) h;rw[if_neg];rintro⟨hi,f⟩;rw[JW hi]at f;have e:m.free[Vg m (lo+a)]∈m.free.drop (Vg m (lo+a)):=List.mem_drop_iff_getElem.2 ⟨0,by omega,by simp⟩;have:=m3 _ e;have a1:=h.Iq.2 _ (List.getElem_mem hi);refine hu (max (lo+a) m.free[Vg m (lo+a)].1) (by omega) (by omega) ⟨_,List.getElem_mem hi,by omega,by omega⟩
 obtain⟨i1,i2⟩:=UL h hg;have b:VJ F a c=Vo F a true c:=by
  unfold VJ;rw[if_pos];simp only[Bool.and_eq_true];refine⟨Vm.2 ⟨hc,h2⟩,(Od h2).2 fun i hi1 hi2=> ?_⟩;cases hx:F.getD i false with
  |false=>rfl
  |true=>
   have:=(hs.iff i (by omega)).1 hx;rw[h.Ky]at this;exact absurd this (hu _ (by omega) (by omega))
 have d:(JF m (lo+a) c).2.QJ=m.QJ:=by rw[i1.QJ,h.QJ]
 refine⟨hg,i1,⟨?_,LC h hs.tight hc,fun j hj=> ?_⟩,b,i2⟩
 ·rw[b,KP,hs.len,d]
 rw[b,KP]at hj;rw[b,Us F _ _ j hj,i2,i1.Ky,←h.Ky,←hs.iff j hj,h.Ky];by_cases hc2:a≤j∧j<a+c
 ·rw[if_pos hc2];simp;omega
 rw[if_neg hc2];constructor
 ·exact fun g=>.inl g
 rintro(g|g)
 ·exact g
 omega
theorem Xt(a b:Nat)(ha:a<2^32)(hb:b<2^32):bits .xor .u32 (a:Int) (b:Int)=((a ^^^ b:Nat):Int):=by
 have hx:a ^^^ b<2^32:=Nat.xor_lt_two_pow (by omega) (by omega);have h1:(BitVec.ofInt 32 (a:Int)).toNat=a:=by
  rw[BitVec.ofInt_natCast,BitVec.toNat_ofNat];exact Nat.mod_eq_of_lt (by omega)
 have h2:(BitVec.ofInt 32 (b:Int)).toNat=b:=by
  rw[BitVec.ofInt_natCast,BitVec.toNat_ofNat];exact Nat.mod_eq_of_lt (by omega)
 show IntKind.u32.wrap ((BitVec.ofInt 32 (a:Int) ^^^ BitVec.ofInt 32 (b:Int)).toNat:Int)=_;rw[BitVec.toNat_xor,h1,h2,IntKind.wrap_u32];omega
theorem WW(s:Nat)(h:s<2^32):bits .and .u32 (s:Int) 15=((s%16:Nat):Int):=by
 have:=bits_mask .u32 32 (by decide) (fun n a b=>by rw[IntKind.wrap_u32];omega) 4 (by decide) (s:Int) (by omega) (by omega);rw[show(15:Int)=2^4-1 by decide,this];omega
theorem NI(s:Nat)(h:s<2^32):bits .xor .u32 ((YS[s%16]?.getD 0:Nat):Int) ((s:Int)/16)=((LU s:Nat):Int):=by
 have e:((s:Int)/16)=((s/16:Nat):Int):=by omega
 have hl:YS[s%16]?.getD 0<2^32:=Em _ (Nat.mod_lt _ (by omega));rw[e,Xt _ _ hl (by omega)];rfl
def J9(w:World):Prop:=∀i,i<16→w.cell? ⟨2,i,none⟩=some (.int .u32 (YS[i]?.getD 0:Nat))
theorem GI(s:Nat)(w:World)(hs:s<2^32)(ht:J9 w):
  Calls prog 218 #[.int .u32 s] w fun e w'=>e=.returned (.int .u32 (IN s:Nat))∧w=w':=by
 have hn:=Rl hs;have a1:=WW s hs;have a2:=NI s hs;have a3:=WW (LU s) hn;have a4:=NI (LU s) hn;have c1:=ht (s%16) (Nat.mod_lt _ (by omega));have c2:=ht (LU s%16) (Nat.mod_lt _ (by omega));have l1:s%16<16:=Nat.mod_lt _ (by omega);have l2:LU s%16<16:=Nat.mod_lt _ (by omega);go_enter func218,ntmps218;go_wp2;go_ret;exact⟨rfl,rfl⟩
def Bu(w:World)(A:Option Addr)(l:List UInt8):Prop:=
 0<l.length→∃b o,A=some ⟨b,o,none⟩∧b<w.heap.size∧∀j (hj:j<l.length),w.cell? ⟨b,o+j,none⟩=some (.int .u8 l[j].toNat)
theorem Wl(l:List UInt8)(k:Nat)(h:k<l.length)(s:Nat):Xr s (l.take (k+1))=IN (Xr s (l.take k) ^^^ l[k].toNat):=by
 rw[List.take_succ_eq_append_getElem h,Zr];rfl
theorem Mk(l:List UInt8)(A:Option Addr)(c:Nat)(w:World)(ht:J9 w)(hl:l.length<2^60)(hb:Bu w A l):
  Calls prog 190 #[.int .u32 0,.slice A l.length c] w fun e w'=>e=.returned (.int .u32 (VP l:Nat))∧w=w':=by
 have m0:bits BinOp.xor IntKind.u32 IntKind.u32.max 0=4294967295:=by decide
 have c0:(0 ^^^ 0xFFFFFFFF:Nat)<2^32:=by decide
 go_enter func190,ntmps190;go_wp2
 go_loop [5,12] (fun s i=>∃k:Nat,k≤l.length∧i=.int .i64 k∧s=.int .u32 (Xr 4294967295 (l.take k):Nat)) (fun _ i=>l.length-(intOf i).toNat)
 case atStart=>exact⟨0,Nat.zero_le _,rfl,rfl⟩
 obtain⟨k,hk,rfl,rfl⟩:=hrel;have hs:Xr 4294967295 (l.take k)<2^32:=Up _ c0;by_cases hlt:k<l.length
 ·obtain⟨b,o,rfl,hB,hc⟩:=hb (by omega);have h1:=hc k hlt;have x1:=Xt _ _ hs (VY l[k]);rw[show((l[k].toNat:Nat):Int)=(l[k].toNat:Int)%4294967296 by have:=VY l[k];omega]at x1;have hx:Xr 4294967295 (l.take k) ^^^ l[k].toNat<2^32:=Nat.xor_lt_two_pow hs (VY _);have hr:=Wl l k hlt 4294967295;generalize Xr 4294967295 (l.take k)=s at*
  go_wp2_with (go_at_call 218;refine(GI _ _ hx ht).mono ?_;rintro e w' ⟨rfl,rfl⟩);exact⟨⟨k+1,by omega,by go_num,by rw[hr]⟩,by simp[intOf];omega⟩
 obtain rfl:k=l.length:=by omega
 have x2:=Xt (2^32-1) _ (by decide) hs;rw[List.take_length]at*
 have ef:((2^32-1:Nat):Int)=IntKind.u32.max:=by decide
 rw[ef]at x2;go_wp2;go_ret;refine⟨?_,rfl⟩;show Ending.returned (.int .u32 ((4294967295 ^^^ Xr 4294967295 l:Nat):Int))=_;rw[Nat.xor_comm];rfl
theorem Sy(l:List UInt8)(A:Option Addr)(c:Nat)(w:World)(ht:J9 w)(hl:l.length<2^60)(hb:Bu w A l):
  Calls prog 162 #[.slice A l.length c] w fun e w'=>e=.returned (.int .u32 (VP l:Nat))∧w=w':=by
 go_enter func162,ntmps162;go_wp2_with (go_at_call 190;refine(Mk l A c w ht hl hb).mono ?_;rintro e w' ⟨rfl,rfl⟩);go_ret;exact⟨rfl,rfl⟩
section
open Go.Maps
theorem UG{a b:Bool}(h:a=b):Ending.returned (.bool a)=.returned (.bool b):=by rw[h]
theorem US{k:IntKind}{a b:Int}(h:a=b):Ending.returned (.int k a)=.returned (.int k b):=by rw[h]
def Rd(w:World)(B sz:Nat)(A:Option Addr)(n:Nat)(xs:List Value):Prop:=
 xs.length=n*sz∧(0<n→∃b o,A=some ⟨b,o,none⟩∧b<B∧∀j (hj:j<xs.length),w.cell? ⟨b,o+j,none⟩=some xs[j])
variable {A:Option Addr} {B sz:Nat} {w:World}
theorem Rd.nil:Rd w B sz A 0 []:=⟨by simp,fun h=>absurd h (by omega)⟩
def Qh(w:World)(g:Nat)(t:TypeId)(cs:Array Value):Prop:=w.heap[g]? =some (.cells cs t (0,0))
variable {cs:Array Value} {g:Nat} {t:TypeId}
theorem Qh.lt(h:Qh w g t cs):g<w.heap.size:=(Array.getElem?_eq_some_iff.1 h).1
theorem Qh.cell(h:Qh w g t cs)(i:Nat):w.cell? ⟨g,i,none⟩=cs[i]? :=cell_of_row w g i cs t (0,0) h
theorem Qh.free(h:Qh w g t cs)(i:Nat):w.frozen? ⟨g,i,none⟩=false:=by
 unfold Qh at h;simp[World.frozen?, h]
theorem Qh.new(w:World)(t:TypeId)(cs:Array Value):Qh (w.alloc (.cells cs t)) w.heap.size t cs:=heap_alloc_new w _
variable {w':World}
theorem Qh.below(h:Qh w g t cs)(hb:Below B w w')(hg:g<B):Qh w' g t cs:=(hb.block g hg).trans h
theorem Qh.alloc(h:Qh w g t cs)(o:Obj):Qh (w.alloc o) g t cs:=(Below.heap_alloc w o g h.lt).trans h
theorem J3(b o j:Nat):(⟨b,o,none⟩:Addr).add j=⟨b,o+j,none⟩:=by
 unfold Addr.add;split<;>simp_all
variable {base:Nat} {v:Value} {xs:List Value}
theorem Jg{size:Nat}(h:w.ownsRow base e size v n xs):∃A c,v=.slice A n c∧n≤c:=by
 rcases h.2 with⟨rfl,rfl⟩|⟨g,cap,cur,rfl,_,_,hnc,_⟩
 ·exact⟨_,_,rfl,nR⟩
 exact⟨_,_,rfl,hnc⟩
theorem Zy{size:Nat}(h:w.ownsRow base e size (.slice A n c) n xs):Rd w w.heap.size size A n xs:=by
 refine⟨h.1,fun hn=> ?_⟩;rcases h.2 with⟨hv,rfl⟩|⟨g,cap,cur,hv,_,hg,_⟩
 ·omega
 injection hv with hA;subst hA;refine⟨g,0,rfl,(Array.getElem?_eq_some_iff.1 hg).1,fun j hj=> ?_⟩;have:=h.cells (g:=g) rfl j xs[j] (List.getElem?_eq_getElem hj);rw[J3]at this;exact this
theorem XJ{P:Program}(w:World)(base:Nat)(t ty e:TypeId)(i:TypeInfo)(z:Value)(size bytes:Nat)(ht:P.underlying t=some (.slice e))(hi:P.info? e=some i)(hz:i.zero=some z)
  (hsize:i.size=size)(hby:i.bytes=bytes)(hzs:z.cells.size=size)(hsz:0<size)
  (v:Value)(n:Nat)(xs:List Value)(hown:w.ownsRow base e size v n xs)
  (A:Option Addr)(m c B:Nat)(news:List Value)(hr:Rd w B size A m news)(h1:∀u∈news,u.oneCell'=true)
  (h63:n+m≤maxLen)(hbytes:(n+m)*bytes≤140737488355328)(hbase:base≤w.heap.size):
  ∃A' c' w',(Builtin.append_ #[t,t] ty #[v,.slice A m c]).run P w=.ok (.slice A' (n+m) c') w'∧w'.ownsRow base e size (.slice A' (n+m) c') (n+m) (xs++news)∧w.grownBy w' v.ownBlock∧
   n+m≤c'∧((Value.slice A' (n+m) c').ownBlock=v.ownBlock∨(Value.slice A' (n+m) c').ownBlock=some w.heap.size):=by
 have d:∀v' w',(Builtin.append_ #[t,t] ty #[v,.slice A m c]).run P w=.ok v' w'→w'.ownsRow base e size v' (n+m) (xs++news)→w.grownBy w' v.ownBlock→(v'.ownBlock=v.ownBlock∨v'.ownBlock=some w.heap.size)→
   ∃A' c' w',(Builtin.append_ #[t,t] ty #[v,.slice A m c]).run P w=.ok (.slice A' (n+m) c') w'∧w'.ownsRow base e size (.slice A' (n+m) c') (n+m) (xs++news)∧w.grownBy w' v.ownBlock∧
   n+m≤c'∧((Value.slice A' (n+m) c').ownBlock=v.ownBlock∨(Value.slice A' (n+m) c').ownBlock=some w.heap.size):=by
  intro v' w' h h2 h3 h4;obtain⟨A',c',rfl,hc⟩:=Jg h2;exact⟨A',c',w',h,h2,h3,hc,h4⟩
 by_cases hm:m=0
 ·subst hm;have hn:news=[]:=List.eq_nil_of_length_eq_zero (by simpa using hr.1);subst hn;refine d v w ?_ (by simpa using hown) ⟨rfl,rfl,rfl,nR,fun _ _ _=>rfl⟩ (.inl rfl)
  rcases hown.2 with⟨rfl,rfl⟩|⟨g,cap,cur,rfl,_,_,hnc,_⟩<;>cases A<;>
   simp[*, Builtin.append_,run_underlying ht,sizeOf,typeInfo,Builtin.lenOf,Builtin.firstCells,loadCells,loadCellsFrom,storeCells]
 obtain⟨b,o,rfl,hb,hc⟩:=hr.2 (by omega)
 obtain⟨v',w',a,ho,hg,_,hv⟩:=run_append_own_at (P:=P) w base t ty e i z size bytes ht hi hz hsize hby hzs hsz v n xs hown ⟨b,o,none⟩ m c news hr.1
  (fun j u hu=>by obtain⟨hj,rfl⟩:=List.getElem?_eq_some_iff.1 hu;rw[J3];exact hc j hj) h1 h63 hbytes hbase
 exact d v' w' a ho hg hv
theorem Qv{P:Program}(w:World){ops:Array Oper}{rest:List Oper}{o:Oper}{a:Act}{Q:Exit→Act→World→Prop}(hgd:o.guard=none)(s x:Operand)(t:TypeId)
  (ho:o.op=.call { callee:=.builtin .append,args:=#[s,x],argTypes:=#[t,t] })
  (base:Nat)(e:TypeId)(i:TypeInfo)(z:Value)(size bytes:Nat)(ht:P.underlying t=some (.slice e))(hi:P.info? e=some i)(hz:i.zero=some z)
  (hsize:i.size=size)(hby:i.bytes=bytes)(hzs:z.cells.size=size)(hsz:0<size)
  (v:Value)(n:Nat)(xs:List Value)(hs:a.eval s=v)(hown:w.ownsRow base e size v n xs)
  (A:Option Addr)(m c B:Nat)(news:List Value)(hx:a.eval x=.slice A m c)(hr:Rd w B size A m news)(h1:∀u∈news,u.oneCell'=true)
  (h63:n+m≤maxLen)(hbytes:(n+m)*bytes≤140737488355328)(hbase:base≤w.heap.size)
  (h:∀A' c' w',w'.ownsRow base e size (.slice A' (n+m) c') (n+m) (xs++news)→w.grownBy w' v.ownBlock→n+m≤c'→((Value.slice A' (n+m) c').ownBlock=v.ownBlock∨(Value.slice A' (n+m) c').ownBlock=some w.heap.size)→wpList P ops Q rest (a.put o.dst (.slice A' (n+m) c')) w'):
  wpList P ops Q (o::rest) a w:=by
 refine wpList_plain hgd fun K hK=> ?_
 obtain⟨A',c',w',b,h2,h3,h4,h5⟩:=XJ (P:=P) w base t o.type e i z size bytes ht hi hz hsize hby hzs hsz v n xs hown A m c B news hr h1 h63 hbytes hbase;unfold Oper.wp execOp;simp only[ho,resolve,invoke,builtin,Sem.run_bind,Sem.run_pure,Result.andThen_ok,List.map_toArray,List.map_cons,List.map_nil,hs,hx,b];exact hK _ _ (h A' c' w' h2 h3 h4 h5)
theorem Qg{row:Option Nat}(hg:w.grownBy w' row)(hB:B≤w.heap.size)(hr:∀k,row=some k→B≤k):Below B w w':=(Below.refl B w).grown hg hB hr
theorem Qh.grown{row:Option Nat}(h:Qh w g t cs)(hb:w.grownBy w' row)(hg:row≠some g):Qh w' g t cs:=(hb.block g h.lt (fun e=>hg e.symm)).trans h
variable {base':Nat}
theorem Xe{size:Nat}(h:w.ownsRow base e size v n xs)(hb:base'≤base):w.ownsRow base' e size v n xs:=by
 refine⟨h.1, ?_⟩;rcases h.2 with h|⟨g,cap,cur,hv,hbg,hg,r⟩
 ·exact .inl h
 exact .inr ⟨g,cap,cur,hv,Nat.le_trans hb hbg,hg,r⟩
variable {o:Nat}
theorem Jo{a:World}(h:Below B a w){b:Nat}(hp:B≤b)(u:Value):Below B a (w.setCell ⟨b,o,none⟩ u):=h.setCell (p:=⟨b,o,none⟩) hp u
theorem Qh.drewN(h:Qh w g t cs)(n:Nat):Qh (w.drewN n) g t cs:=h
theorem Qh.drew(h:Qh w g t cs):Qh w.drew g t cs:=h
theorem Qh.set(h:Qh w g t cs)(i:Nat)(u:Value):Qh (w.setCell ⟨g,i,none⟩ u) g t (cs.setIfInBounds i u):=by
 unfold Qh at h ⊢;simp[World.setCell,Array.getElem?_modify,h]
theorem Qh.Yq(h:Qh w g t cs){b:Nat}(hp:g≠b)(u:Value):Qh (w.setCell ⟨b,o,none⟩ u) g t cs:=(Below.heap_setCell w ⟨b,o,none⟩ u g hp).trans h
theorem UP(w:World)(row:Option Nat):w.grownBy w row:=⟨rfl,rfl,rfl,nR,fun _ _ _=>rfl⟩
theorem LX{a:World}(h:a.grownBy w (some g))(i:Nat)(u:Value):a.grownBy (w.setCell ⟨g,i,none⟩ u) (some g):=
 ⟨h.os,h.tape,h.output,by simpa [World.setCell]using h.size,fun k hk hne=>(Below.heap_setCell w ⟨g,i,none⟩ u k (fun e=>hne (by rw[e]))).trans (h.block k hk hne)⟩
theorem TD{a:World}{row:Option Nat}(h:a.grownBy w row)(o:Obj):a.grownBy (w.alloc o) row:=
 ⟨h.os,h.tape,h.output,by have:=h.size;simp;omega,fun k hk hne=>(Below.heap_alloc w o k (by have:=h.size;omega)).trans (h.block k hk hne)⟩
theorem Dx(h:w.ownsRow base e 1 v n xs):xs.length=n:=by have:=h.1;simpa using this
theorem Xl{size:Nat}(h:w.ownsRow base e size v n xs)(hb:Qh w g t cs)(hne:e≠t):v.ownBlock≠some g:=by
 rcases h.2 with⟨rfl,_⟩|⟨g',cap,cur,rfl,_,hg,_⟩
 ·simp[Value.ownBlock]
 intro he;have:g'=g:=by simpa [Value.ownBlock]using he
 subst this;unfold Qh at hb;rw[hg]at hb;injection hb with hb;injection hb with _ ht;exact hne ht
theorem Og{size:Nat}{row:Option Nat}(h:w.ownsRow base e size v n xs)(hg:w.grownBy w' row)(hne:∀g,v.ownBlock=some g→row≠some g):w'.ownsRow base e size v n xs:=
 h.kept hg (by cases hv:v.ownBlock with|none=>exact .inl rfl|some g=>exact .inr fun e=>hne g hv e.symm)
def VG(w:World)(k:Nat):Option TypeId:=match w.heap[k]? with|some (.cells _ t _)=>some t|some (.map _ _)=>some 1000000|_=>none
theorem Qh.ty(h:Qh w g t cs):VG w g=some t:=by unfold Qh at h;simp[VG,h]
theorem Pk{size:Nat}(h:w.ownsRow base e size v n xs)(hg:v.ownBlock=some g):VG w g=some e:=by
 rcases h.2 with⟨rfl,_⟩|⟨g',cap,cur,rfl,_,hh,_⟩
 ·simp[Value.ownBlock]at hg
 have:g'=g:=by simpa [Value.ownBlock]using hg
 subst this;simp[VG,hh]
theorem YB(h:VG w k=some t):k<w.heap.size:=by
 unfold VG at h;split at h
 ·rename_i hh;exact(Array.getElem?_eq_some_iff.1 hh).1
 ·rename_i hh;exact(Array.getElem?_eq_some_iff.1 hh).1
 cases h
theorem UN(h:Below w.heap.size w w'):w.grownBy w' none:=⟨h.os,h.tape,h.output,h.size,fun k hk _=>h.block k hk⟩
theorem Qh.ne{g':Nat}{t':TypeId}{cs':Array Value}(h:Qh w g t cs)(h':Qh w g' t' cs')(hne:t≠t'):g≠g':=by
 rintro rfl;have:=h.ty;rw[h'.ty]at this;injection this with this;exact hne this.symm
theorem Uf{size:Nat}(h:w.ownsRow base e size (.slice A n c) n xs)(hn:0<n):∃g,A=some ⟨g,0,none⟩∧base≤g∧g<w.heap.size∧(∀o k,w.frozen? ⟨g,o,k⟩=false∨k≠none):=by
 rcases h.2 with⟨hv,hn'⟩|⟨g,cap,cur,hv,hb,hg,_⟩
 ·omega
 injection hv with hA;subst hA;refine⟨g,rfl,hb,(Array.getElem?_eq_some_iff.1 hg).1,fun o k=> ?_⟩;cases k with
 |none=>left;simp[World.frozen?, hg]
 |some k=>right;simp
theorem Qh.there(h:Qh w g t cs)(o n:Nat)(hn:o+n≤cs.size):w.there g o n:=fun j hj=>⟨by rw[h.cell,Array.getElem?_eq_getElem (by omega)];rfl,h.free _⟩
def Er(cs:Array Value)(o:Nat):List Value→Array Value
 |[]=>cs
 |v::vs=>Er (cs.setIfInBounds o v) (o+1) vs
theorem Qh.sets(h:Qh w g t cs):∀(vs:List Value)(o:Nat),Qh (w.setCells g o vs) g t (Er cs o vs):=by
 intro vs
 induction vs generalizing w cs with
 |nil=>intro o;exact h
 |cons v vs ih=>intro o;exact ih (h.set o v) (o+1)
theorem Q9{P:Program}(w:World){ops:Array Oper}{o:Oper}{a:Act}{K:Act→World→Prop}{Q:Exit→Act→World→Prop}{E:Prop}(hgd:o.guard=none)(s x:Operand)(t:TypeId)
  (ho:o.op=.call { callee:=.builtin .append,args:=#[s,x],argTypes:=#[t,t] })
  (base:Nat)(e:TypeId)(i:TypeInfo)(z:Value)(size bytes:Nat)(ht:P.underlying t=some (.slice e))(hi:P.info? e=some i)(hz:i.zero=some z)
  (hsize:i.size=size)(hby:i.bytes=bytes)(hzs:z.cells.size=size)(hsz:0<size)
  (v:Value)(n:Nat)(xs:List Value)(hs:a.eval s=v)(hown:w.ownsRow base e size v n xs)
  (A:Option Addr)(m c B:Nat)(news:List Value)(hx:a.eval x=.slice A m c)(hr:Rd w B size A m news)(h1:∀u∈news,u.oneCell'=true)
  (h63:n+m≤maxLen)(hbytes:(n+m)*bytes≤140737488355328)(hbase:base≤w.heap.size)
  (h:∀A' c' w',w'.ownsRow base e size (.slice A' (n+m) c') (n+m) (xs++news)→w.grownBy w' v.ownBlock→n+m≤c'→K (a.put o.dst (.slice A' (n+m) c')) w'):
  if Region.wanted o (yielded ops a.tmps)=true then Oper.wp P o a w K Q else E:=by
 have hw:Region.wanted o (yielded ops a.tmps)=true:=by simp[Region.wanted,hgd]
 rw[if_pos hw];obtain⟨A',c',w',b,h2,h3,h4,h5⟩:=XJ (P:=P) w base t o.type e i z size bytes ht hi hz hsize hby hzs hsz v n xs hown A m c B news hr h1 h63 hbytes hbase;unfold Oper.wp execOp;simp only[ho,resolve,invoke,builtin,Sem.run_bind,Sem.run_pure,Result.andThen_ok,List.map_toArray,List.map_cons,List.map_nil,hs,hx,b];exact h A' c' w' h2 h3 h4
structure Qd (base:Nat) (ts:List TypeId) (w w':World):Prop where
 below:Below base w w'
 old:∀k t,VG w k=some t→t∉ts→w'.heap[k]? =w.heap[k]?
theorem Qd.refl(base:Nat)(ts:List TypeId)(w:World):Qd base ts w w:=⟨bR,fun _ _ _ _=>rfl⟩
theorem Qd.trans{ts:List TypeId}{a b c:World}(h:Qd base ts a b)(k:Qd base ts b c):Qd base ts a c:=
 ⟨h.below.trans k.below,fun i t hi h1=>by
  have e1:=h.old i t hi h1;have:VG b i=some t:=by unfold VG at hi ⊢;rw[e1];exact hi
  exact(k.old i t this h1).trans e1⟩
theorem Qd.mono{ts ts':List TypeId}(h:Qd base ts w w')(hb:base'≤base)(ht:∀t∈ts,t∈ts'):Qd base' ts' w w':=
 ⟨h.below.mono hb,fun k t hk h1=>h.old k t hk fun g=>h1 (ht t g)⟩
theorem Qd.Qe{ts:List TypeId}(h:Below w.heap.size w w')(hb:base≤w.heap.size):Qd base ts w w':=
 ⟨h.mono hb,fun k _ hk _=>h.block k (YB hk)⟩
theorem Qd.JY{ts:List TypeId}{r:Option Nat}(h:w.grownBy w' r)(hb:base≤w.heap.size)(hg:∀g,r=some g→base≤g∧∀t,VG w g=some t→t∈ts):Qd base ts w w':=
 ⟨Qg h hb (fun k hk=>(hg k hk).1),fun k t hk h1=>by
  refine h.block k (YB hk) (fun e=> ?_);exact h1 ((hg k e.symm).2 t hk)⟩
theorem Qd.set{ts:List TypeId}{a:World}(h:Qd base ts a w)(hB:Qh w g t cs)(hg:base≤g)(ht:t∈ts)(u:Value):Qd base ts a (w.setCell ⟨g,o,none⟩ u):=
 h.trans ⟨Jo bR hg u,fun k t' hk h1=>by
  by_cases e:k=g
  ·subst e;have:=hB.ty.symm.trans hk;injection this with this;exact absurd (this▸ht) h1
  exact Below.heap_setCell w ⟨g,o,none⟩ u k e⟩
theorem Qd.alloc{ts:List TypeId}{a:World}(h:Qd base ts a w)(hb:base≤w.heap.size)(o:Obj):Qd base ts a (w.alloc o):=
 h.trans (Qd.Qe (bR.alloc nR o) hb)
theorem Qd.drewN{ts:List TypeId}{a:World}(h:Qd base ts a w)(n:Nat):Qd base ts a (w.drewN n):=h.trans ⟨⟨rfl,rfl,rfl,nR,fun _ _=>rfl⟩,fun _ _ _ _=>rfl⟩
theorem Qh.keeps{ts:List TypeId}(h:Qh w g t cs)(k:Qd base ts w w')(ht:t∉ts):Qh w' g t cs:=(k.old g t h.ty ht).trans h
theorem QF{ts:List TypeId}{size:Nat}(h:w.ownsRow base' e size v n xs)(k:Qd base ts w w')(ht:e∉ts):w'.ownsRow base' e size v n xs:=by
 refine⟨h.1, ?_⟩;rcases h.2 with h|⟨g,cap,cur,hv,hbg,hg,r⟩
 ·exact .inl h
 refine .inr ⟨g,cap,cur,hv,hbg, ?_,r⟩;rw[k.old g e (by simp[VG,hg]) ht];exact hg
end
section
open Go.Maps
section
open Classical
noncomputable def CR {α:Type} (ea:α→Value) (da:α→DataW Unit) (v:Value):Option (DataW Unit × List MemPlace):=if h:∃a,v=ea a then some (da h.choose,[])else none
theorem LL{α:Type}{ea:α→Value}{da:α→DataW Unit}(hi:∀a b,ea a=ea b→a=b)(a:α):CR ea da (ea a)=some (da a,[]):=by
 have h:∃b,ea a=ea b:=⟨a,rfl⟩;unfold CR;rw[dif_pos h];rw[←hi _ _ h.choose_spec]
theorem Ou{α:Type}{ea:α→Value}{da:α→DataW Unit}{v:Value}{y:DataW Unit × List MemPlace}(h:CR ea da v=some y):∃a,v=ea a∧y=(da a,[]):=by
 unfold CR at h;split at h
 ·rename_i hx;injection h with h;exact⟨hx.choose,hx.choose_spec,h.symm⟩
 cases h
end
structure KV (P:Program) (κ α:Type) where
 k:TypeId
 t:TypeId
 e:TypeId
 ek:κ→Value
 lk:κ→Lit
 ok:κ→Prop
 ea:α→Value
 da:α→DataW Unit
 z:α
 keyed:Keyed P k
 ut:P.underlying t=some (.map k e)
 key:∀x,ok x→keyOf P k (ek x)=some (lk x)
 inv:∀v l,keyOf P k v=some l→∃x,ok x∧v=ek x∧l=lk x
 inj:∀x y,ok x→ok y→lk x=lk y→x=y
 C7:∀x y,ek x=ek y→x=y
 EA:∀a b,ea a=ea b→a=b
 Dy:∀a b,da a=da b→a=b
 zero:∀w,(zeroValue e).run P w=.ok (ea z) w
section
variable {P:Program} {κ α:Type} {m:KV P κ α} {w w':World} {b n:Nat} {f:κ→Option α}
noncomputable def KV.R (m:KV P κ α):Value→Option (DataW Unit × List MemPlace):=CR m.ea m.da
def KV.Yd(m:KV P κ α)(D:DataW Unit)(f:κ→Option α):Prop:=∀x,m.ok x→has D (m.lk x)=(f x).isSome∧∀a,f x=some a→∀zd,D.atKey (m.lk x) zd=m.da a
def KV.In(m:KV P κ α)(w:World)(b n:Nat)(f:κ→Option α):Prop:=∃D,w.ownsMap P m.k m.R b n D∧m.Yd D f
theorem KV.made(m:KV P κ α)(w:World):m.In (w.alloc (.map #[] 0)) w.heap.size 0 (fun _=>none):=
 ⟨.map [],World.ownsMap_made w _ _ _,fun _ _=>⟨rfl,fun _ h=>by cases h⟩⟩
theorem KV.In.lt(h:m.In w b n f):b<w.heap.size:=let ⟨_,h,_⟩:=h;h.lt
theorem KV.In.ty(h:m.In w b n f):VG w b=some 1000000:=by
 obtain⟨D,⟨es,cl,hb,_⟩,_⟩:=h;simp[VG,hb]
theorem KV.In.congr{g:κ→Option α}(h:m.In w b n f)(hg:∀x,m.ok x→g x=f x):m.In w b n g:=by
 obtain⟨D,h,hf⟩:=h;exact⟨D,h,fun x hx=>by rw[hg x hx];exact hf x hx⟩
theorem KV.In.mono{n':Nat}(h:m.In w b n f)(hn:n≤n'):m.In w b n' f:=let ⟨D,h,hf⟩:=h;⟨D,h.mono hn,hf⟩
theorem KV.In.kept{row:Option Nat}(h:m.In w b n f)(hg:w.grownBy w' row)(hne:some b≠row):m.In w' b n f:=let ⟨D,h,hf⟩:=h;⟨D,h.kept hg hne,hf⟩
theorem KV.In.keeps{base:Nat}{ts:List TypeId}(h:m.In w b n f)(k:Qd base ts w w')(ht:(1000000:TypeId)∉ts):m.In w' b n f:=by
 have a:=h.ty;obtain⟨D,⟨es,cl,hb,r⟩,hf⟩:=h;exact⟨D,⟨es,cl,(k.old b _ a ht).trans hb,r⟩,hf⟩
theorem KV.In.below(h:m.In w b n f)(k:Below w.heap.size w w'):m.In w' b n f:=h.keeps (ts:=[]) (Qd.Qe (base:=0) k (Nat.zero_le _)) (by simp)
theorem KV.In.FP{g:Nat}{t:TypeId}{cs:Array Value}(h:m.In w b n f)(hb:Qh w g t cs):b≠g:=by
 rintro rfl;obtain⟨D,⟨es,cl,hm,_⟩,_⟩:=h;unfold Qh at hb;rw[hm]at hb;cases hb
theorem KV.YT(h:w.mapTurned w' b){base:Nat}(hb:base≤b)(hw:base≤w.heap.size):Qd base [1000000] w w':=
 Qd.JY h.grown hw fun g hg=>⟨by cases hg;exact hb,fun t ht=>by
  cases hg;obtain⟨es,cl,a0,a1,hm,_⟩:=h;simp[VG,hm]at ht;simp[←ht]⟩
theorem KV.In.val{D:DataW Unit}{x:κ}{v:Value}{ps:List MemPlace}(hf:m.Yd D f)(hx:m.ok x)(hv:m.R v=some (D.atKey (m.lk x) (m.da m.z),ps)):v=m.ea ((f x).getD m.z):=by
 obtain⟨h1,h2⟩:=hf x hx;obtain⟨a,rfl,e⟩:=Ou hv;injection e with e _;cases hfx:f x with
 |none=>
  have h3:D.atKey (m.lk x) (m.da m.z)=m.da m.z:=atKey_of_not_has (by rw[h1,hfx];rfl) _;rw[h3]at e;rw[m.Dy _ _ e];rfl
 |some c=>
  rw[h2 c hfx]at e;rw[m.Dy _ _ e];rfl
theorem KV.In.look(h:m.In w b n f){x:κ}(hx:m.ok x):(Instr.lookup m.t (.map (some b)) (m.ek x) false).run P w=.ok (m.ea ((f x).getD m.z)) w:=by
 obtain⟨D,h,hf⟩:=h;obtain⟨v,ps,a,hv⟩:=h.lookup m.keyed m.ut (m.zero w) (zd:=m.da m.z) (zp:=[]) (LL m.EA m.z) (m.key x hx);rw[a,KV.In.val hf hx hv]
theorem KV.In.look_ok(h:m.In w b n f){x:κ}(hx:m.ok x):(Instr.lookup m.t (.map (some b)) (m.ek x) true).run P w=.ok (.tuple #[m.ea ((f x).getD m.z),.bool (f x).isSome]) w:=by
 obtain⟨D,h,hf⟩:=h;obtain⟨v,ps,a,hv⟩:=h.look_ok m.keyed m.ut (m.zero w) (zd:=m.da m.z) (zp:=[]) (LL m.EA m.z) (m.key x hx);rw[a,KV.In.val hf hx hv,(hf x hx).1]
theorem KV.Yd.put[DecidableEq κ]{D:DataW Unit}(hD:IsMap D)(hf:m.Yd D f){x:κ}(hx:m.ok x)(a:α):m.Yd (D.put (m.lk x) (m.da a)) (fun y=>if y=x then some a else f y):=by
 intro y hy;by_cases e:y=x
 ·subst e;have hk:=m.keyed.key (m.key y hx);simp only[if_pos];refine⟨by rw[has_put_same hD hk];rfl,fun c hc zd=> ?_⟩;injection hc with hc;rw[atKey_put_same hD hk,hc]
 have b:m.lk y≠m.lk x:=fun he=>e (m.inj _ _ hy hx he)
 simp only[if_neg e];rw[has_put_other b];exact⟨(hf y hy).1,fun c hc zd=>by rw[atKey_put_other b];exact(hf y hy).2 c hc zd⟩
theorem KV.Yd.del[DecidableEq κ]{D:DataW Unit}(hf:m.Yd D f){x:κ}(hx:m.ok x):m.Yd (D.del (m.lk x)) (fun y=>if y=x then none else f y):=by
 intro y hy;by_cases e:y=x
 ·subst e;simp only[if_pos];exact⟨by rw[has_del_same];rfl,fun c hc=>by cases hc⟩
 have a:m.lk y≠m.lk x:=fun he=>e (m.inj _ _ hy hx he)
 simp only[if_neg e];rw[has_del_other a];exact⟨(hf y hy).1,fun c hc zd=>by rw[atKey_del_other a];exact(hf y hy).2 c hc zd⟩
theorem KV.In.put[DecidableEq κ](h:m.In w b n f)(hn:n<maxLen){x:κ}(hx:m.ok x)(a:α):∃w',(Instr.mapUpdate m.t (.map (some b)) (m.ek x) (m.ea a)).run P w=.ok () w'∧m.In w' b (n+1) (fun y=>if y=x then some a else f y)∧w.mapTurned w' b:=by
 obtain⟨D,h,hf⟩:=h;have hD:=h.isMap;obtain⟨w',c,h',ht⟩:=h.store m.keyed m.ut hn (m.key x hx) (LL m.EA a);exact⟨w',c,⟨_,h',hf.put hD hx a⟩,ht⟩
theorem KV.In.drop[DecidableEq κ](h:m.In w b n f){x:κ}(hx:m.ok x)(ty:TypeId):∃w',(Builtin.delete_ #[m.t,m.k] ty #[.map (some b),m.ek x]).run P w=.ok (.tuple #[]) w'∧m.In w' b n (fun y=>if y=x then none else f y)∧w.mapTurned w' b:=by
 obtain⟨D,h,hf⟩:=h;obtain⟨w',a,h',ht⟩:=h.drop m.keyed m.ut (m.key x hx) ty;exact⟨w',a,⟨_,h',hf.del hx⟩,ht⟩
def KV.Keys(m:KV P κ α)(f:κ→Option α)(ks:List κ):Prop:=ks.Nodup∧(∀x∈ks,m.ok x)∧∀x,m.ok x→(x∈ks↔(f x).isSome=true)
theorem KV.Keys.perm{ks ks':List κ}(h:m.Keys f ks)(h':m.Keys f ks'):ks.Perm ks':=
 (List.perm_ext_iff_of_nodup h.1 h'.1).2 fun x=>⟨fun hx=>(h'.2.2 x (h.2.1 x hx)).2 ((h.2.2 x (h.2.1 x hx)).1 hx),fun hx=>(h.2.2 x (h'.2.1 x hx)).2 ((h'.2.2 x (h'.2.1 x hx)).1 hx)⟩
theorem KV.size{D:DataW Unit}(hown:w.ownsMap P m.k m.R b n D)(hf:m.Yd D f){ks:List κ}(hk:m.Keys f ks):Maps.size D=ks.length:=by
 obtain⟨es,rfl,h,a2⟩:=hown.entries m.keyed;obtain⟨es',hD',hko⟩:∃es',DataW.map es=.map es'∧∀p∈es',KeysOf P m.k p.1:=by
  obtain⟨a1,a0,_,F,_,hD⟩:=hown;exact⟨_,hD,fun p hp=>fit_keys F p (mem_sorted.1 hp)⟩
 injection hD' with hD';subst hD';have d:(es.map (·.1)).Nodup:=List.pairwise_map.2 h;have a:(ks.map m.lk).Nodup:=by
  refine List.pairwise_map.2 ((List.Pairwise.and_mem.1 hk.1).imp ?_);rintro x y ⟨hx,hy,g⟩ he;exact g (m.inj _ _ (hk.2.1 x hx) (hk.2.1 y hy) he)
 have hp:(es.map (·.1)).Perm (ks.map m.lk):=by
  refine(List.perm_ext_iff_of_nodup d a).2 fun l=> ?_
  constructor
  ·intro hl;obtain⟨p,hp,rfl⟩:=List.mem_map.1 hl;obtain⟨v,hv⟩:=hko p hp;obtain⟨x,hx,_,e⟩:=m.inv v _ hv;have hh:has (.map es) (m.lk x)=true:=by
    rw[has_eq,List.any_eq_true];exact⟨p,hp,by rw[e];exact WideAt.sameKey_self (m.keyed.key (m.key x hx))⟩
   rw[(hf x hx).1]at hh;rw[e];exact List.mem_map.2 ⟨x,(hk.2.2 x hx).2 hh,rfl⟩
  intro hl;obtain⟨x,hx,rfl⟩:=List.mem_map.1 hl;have c:=hk.2.1 x hx;have hh:has (.map es) (m.lk x)=true:=by rw[(hf x c).1];exact(hk.2.2 x c).1 hx
  rw[has_eq,List.any_eq_true]at hh;obtain⟨p,hp,he⟩:=hh;exact List.mem_map.2 ⟨p,hp,WideAt.sameKey_eq he⟩
 have:=hp.length_eq;simpa [Maps.size_eq]using this
theorem KV.In.tight(h:m.In w b n f){ks:List κ}(hk:m.Keys f ks):m.In w b ks.length f:=by
 obtain⟨D,a,hf⟩:=h;have hs:=KV.size a hf hk;obtain⟨es,c,hb,F,_,hD⟩:=a;refine⟨D,⟨es,c,hb,F, ?_,hD⟩,hf⟩;rw[←hs,hD,Maps.size_eq,length_sorted];simp
/-! ### ranged over -/
def KV.Y8(m:KV P κ α)(f:κ→Option α)(left:Lit→Bool)(ss:List κ):Prop:=ss.Nodup∧(∀x∈ss,m.ok x)∧∀x,m.ok x→(x∈ss↔(f x).isSome=true∧left (m.lk x)=false)
theorem KV.Y8.start{D:DataW Unit}(hf:m.Yd D f):m.Y8 f (has D) []:=
 ⟨List.nodup_nil,fun x hx=>(by cases hx),fun x hx=>by rw[(hf x hx).1];cases(f x).isSome<;>simp⟩
theorem KV.Y8.step{left:Lit→Bool}{ss:List κ}{x:κ}(h:m.Y8 f left ss)(hx:m.ok x)(hl:left (m.lk x)=true)(hs:(f x).isSome=true):m.Y8 f (fun z=>left z&& !z.sameKey (m.lk x)) (ss++[x]):=by
 obtain⟨h1,h2,h3⟩:=h;have b:x∉ss:=fun hh=>by have:=((h3 x hx).1 hh).2;rw[hl]at this;cases this
 refine⟨?_,fun y hy=> ?_,fun y hy=> ?_⟩
 ·rw[List.nodup_append];refine⟨h1,by simp,fun a ha c hc=> ?_⟩;rw[List.mem_singleton]at hc;subst hc;exact fun e=>b (e▸ha)
 ·rcases List.mem_append.1 hy with hy|hy
  ·exact h2 y hy
  rw[List.mem_singleton]at hy;subst hy;exact hx
 rw[List.mem_append,List.mem_singleton];by_cases e:y=x
 ·subst e;have:=WideAt.sameKey_self (m.keyed.key (m.key y hx));simp[this,hs]
 have d:m.lk y≠m.lk x:=fun he=>e (m.inj _ _ hy hx he)
 simp[e,sameKey_ne d,h3 y hy]
theorem KV.Y8.done{left:Lit→Bool}{ss:List κ}(h:m.Y8 f left ss)(hl:∀kl,left kl=false):m.Keys f ss:=
 ⟨h.1,h.2.1,fun x hx=>by rw[h.2.2 x hx,hl];simp⟩
theorem KV.Yd.here{D:DataW Unit}(hf:m.Yd D f){x:κ}(hx:m.ok x){y:DataW Unit}(hat:∀zd,D.atKey (m.lk x) zd=y):∃a,f x=some a∧y=m.da a:=by
 have hh:has D (m.lk x)=true:=has_true_of_atKey hat;rw[(hf x hx).1]at hh;obtain⟨a,ha⟩:=Option.isSome_iff_exists.1 hh;exact⟨a,ha,by rw[←hat .nil,(hf x hx).2 a ha]⟩
end
end
section
open Go.Maps
def Ks(c:UInt8):Value:=.int .u8 (c.toNat:Int)
def Ko:Option Nat→Value
 |none=>.pointer none
 |some g=>.pointer (some ⟨g,0,none⟩)
def OF(w:World)(base size g:Nat):XR→Prop
 |.zero=>False
 |.torn=>base≤g∧Qh w g 169 #[.slice none 0 0,.bool true,.bool false]
 |.data b t=>b.length=size∧base<g∧∃c,Qh w g 169 #[.slice (some ⟨g-1,0,none⟩) size c,.bool false,.bool t]∧w.ownsRow base 5 1 (.slice (some ⟨g-1,0,none⟩) size c) size (b.map Ks)
structure Jf where
 LB:Nat
 TB:Nat
 li:List (Option Nat)
 wi:List (Nat × Nat)
 A:Option Addr
 c:Nat
def Jf.last(m:Jf)(k:Nat):Option Nat:=m.li.getD k none
def Jf.told(m:Jf)(k:Nat):Option Nat:=match m.wi.reverse.find? (fun x=>x.1==k)with
 |some x=>some x.2
 |none=>m.last k
def IX(w:World)(base size:Nat)(o:Option Nat)(v:XR):Prop:=match o with
 |none=>v=.zero
 |some g=>OF w base size g v
abbrev Yv(d:Qq)(m:Jf):Array Value:=#[.int .i64 d.size,.slice (some ⟨m.LB,0,none⟩) d.Qk.length d.Qk.length,.slice (some ⟨m.TB,0,none⟩) d.Qk.length d.Qk.length,.slice m.A m.wi.length m.c,.bool d.off]
structure Yc (w:World) (base B:Nat) (d:Qq) (m:Jf):Prop where
 low:base≤B∧base≤m.LB∧base≤m.TB
 ne:m.LB≠m.TB
 sz:16≤d.size∧d.size≤4096
 n1:1≤d.Qk.length∧d.Qk.length≤65536
 blk:Qh w B 121 (Yv d m)
 lb:Qh w m.LB 165 (m.li.map Ko).toArray
 tb:Qh w m.TB 165 ((List.range d.Qk.length).map fun k=>Ko (m.told k)).toArray
 own:w.ownsRow base 167 2 (.slice m.A m.wi.length m.c) m.wi.length (m.wi.flatMap fun x=>[.int .i64 x.1,Ko (some x.2)])
 ll:m.li.length=d.Qk.length
 wl:m.wi.map (·.1)=d.waits.map (·.1)
 Bn:∀x∈m.wi,x.1<d.Qk.length
 last:∀k,k<d.Qk.length→IX w base d.size (m.last k) (d.Qk.getD k .zero)
 wait:∀k (h:k<m.wi.length) (h':k<d.waits.length),OF w base d.size m.wi[k].2 d.waits[k].2
 nd:(m.wi.map (·.2)++m.li.filterMap id).Nodup
def VK(w:World)(base B:Nat)(d:Qq):Prop:=∃m,Yc w base B d m
theorem Eg:prog.underlying 118=some (.slice 165):=by kernel_rfl
theorem Dw:(prog.info? 165).map (fun i=>(i.zero,i.size,i.bytes))=some (some (.pointer none),1,8):=by kernel_rfl
def RY(n:Nat):Array Value:=Array.replicate n (.pointer none)
theorem Fl(n:Nat):madeCells (Value.pointer none).cells n=RY n:=by
 unfold madeCells RY;apply Array.ext
 ·simp
 intro i h1 h2;simp[Value.cells,Nat.mod_one]
theorem Nd(n:Int)(h0:0≤n)(h1:n≤65536)(W:World):
  (Instr.makeSlice 118 (.int .i64 n) (.int .i64 n)).run prog W=.ok (.slice (some ⟨W.heap.size,0,none⟩) n.toNat n.toNat) (W.alloc (.cells (RY n.toNat) 165)):=by
 obtain⟨i,hi,b,c,a⟩:=info_parts Dw;have:=run_make (P:=prog) W 118 165 i _ Eg hi b .i64 .i64 n n h0 (Int.le_refl _) (by rw[a];omega) (by omega);rw[this,c,Nat.mul_one,Fl]
theorem Zs(w:World)(base e size:Nat):w.ownsRow base e size (.slice none 0 0) 0 []:=⟨by simp,.inl ⟨rfl,rfl⟩⟩
theorem Sw(n:Nat):((List.replicate n (none:Option Nat)).map Ko).toArray=RY n:=by
 unfold RY;apply Array.ext
 ·simp
 intro i h1 h2;simp[Ko]
variable {B base:Nat} {w:World}
theorem Sm{LB TB s:Nat}(h1:base≤B∧base≤LB∧base≤TB)(hne:LB≠TB)(hs:16≤s∧s≤4096)(hn:1≤n∧n≤65536)
  (hb:Qh w B 121 #[.int .i64 s,.slice (some ⟨LB,0,none⟩) n n,.slice (some ⟨TB,0,none⟩) n n,.slice none 0 0,.bool false])(hl:Qh w LB 165 (RY n))(ht:Qh w TB 165 (RY n)):VK w base B (JA n s):=by
 have hg:∀k,(Jf.mk LB TB (List.replicate n none) [] none 0).told k=none:=fun k=>by
  simp only[Jf.told,Jf.last,List.getD,List.getElem?_replicate,List.reverse_nil,List.find?_nil];split<;>rfl
 refine⟨⟨LB,TB,List.replicate n none,[],none,0⟩,⟨h1,hne,hs,by simpa [JA]using hn,by simpa [Yv,JA]using hb,by rw[Sw];exact hl, ?_,Zs w base 167 2,by simp[JA],rfl,by simp, ?_,by simp,by simp⟩⟩
 ·simp only[hg,JA,List.length_replicate];have:((List.range n).map fun _=>Ko none)=(List.replicate n (none:Option Nat)).map Ko:=by rw[List.map_const',List.map_replicate,List.length_range]
  rw[this,Sw];exact ht
 intro k hk;have e:(Jf.mk LB TB (List.replicate n none) [] none 0).last k=none:=by simp only[Jf.last,List.getD,List.getElem?_replicate];split<;>rfl
 rw[e];simp only[JA,List.length_replicate]at hk ⊢;simp[IX,List.getD,hk]
variable {cs:Array Value} {t:TypeId}
theorem Qh.WD(h:w.heap.size=k):Qh (w.alloc (.cells cs t)).drew k t cs:=h▸(Qh.new w t cs).drew
theorem Qh.Qz(h:w.heap.size=k):Qh (w.alloc (.cells cs t)) k t cs:=h▸(Qh.new w t cs)
section
attribute [local go_sem ↓] Nd
def DX(n s:Int):Prop:=1≤n∧n≤65536∧16≤s∧s≤4096
theorem IU(n s:Int)(w:World):
  Calls prog 15 #[.int .i64 n,.int .i64 s] w fun e w'=>Below w.heap.size w w'∧
   ((e=.returned (.tuple #[.pointer none,.int .i64 1])∧¬DX n s)∨
    (DX n s∧∃B,e=.returned (.tuple #[.pointer (some ⟨B,0,none⟩),.int .i64 0])∧VK w' w.heap.size B (JA n.toNat s.toNat))):=by
 by_cases hh:1≤n∧n≤65536∧16≤s∧s≤4096
 ·obtain⟨h1,h2,h3,h4⟩:=hh;go_enter func15,ntmps15;have h0:0≤n:=by omega
  go_wp2_with fail
  go_region
  all_goals
   go_wp2_with fail;go_ret2;have hs:((s.toNat:Nat):Int)=s:=by omega
   refine⟨(((bR.alloc nR _).alloc (by simp) _).alloc (by simp;omega) _).drew,.inr ⟨⟨h1,h2,h3,h4⟩,w.heap.size+1+1,rfl, ?_⟩⟩
  ·exact Sm (LB:=w.heap.size) (TB:=w.heap.size+1) (by omega) (by omega) (by omega) (by omega)
    (by rw[hs];exact Qh.WD (by simp)) (((Qh.new w 165 _).alloc _).alloc _).drew (Qh.alloc (Qh.Qz (by simp)) _).drew
  exact Sm (LB:=w.heap.size+1) (TB:=w.heap.size) (by omega) (by omega) (by omega) (by omega)
   (by rw[hs];exact Qh.WD (by simp)) (Qh.alloc (Qh.Qz (by simp)) _).drew (((Qh.new w 165 _).alloc _).alloc _).drew
 go_enter func15,ntmps15;go_wp2
 all_goals first
  |(go_ret2;exact⟨bR,.inl ⟨rfl,hh⟩⟩)
  |(exfalso;omega)
end
end
section
open Go.Maps
theorem Z4(B:Nat)(w:World)(n:Nat):Below B w (w.drewN n):=⟨rfl,rfl,rfl,nR,fun _ _=>rfl⟩
variable {B base:Nat} {w:World}
theorem Kk(h:VK w base B d):
  Calls prog 55 #[.pointer (some ⟨B,0,none⟩)] w fun e w'=>e=.returned (.tuple #[.int .i64 d.Qk.length,.int .i64 d.size])∧Below w.heap.size w w':=by
 obtain⟨m,h⟩:=h;have hb:=h.blk;have a0:=hb.lt;have e0:=hb.cell 0;have e1:=hb.cell 1;simp only[Yv]at e0 e1;have HB:=Qa hb;clear hb h;go_enter func55,ntmps55;go_wp2_with fail
 go_quiet (fail)
 go_wp2_with fail;go_ret2;exact⟨rfl,Z4 _ _ _⟩
theorem IJ(h:VK w base B d)(n:Int):
  Calls prog 92 #[.pointer (some ⟨B,0,none⟩),.int .i64 n] w fun e w'=>e=.returned (.bool (decide (0≤n∧n<d.Qk.length)))∧w=w':=by
 obtain⟨m,h⟩:=h;have hb:=h.blk;have a0:=hb.lt;have e1:=hb.cell 1;simp only[Yv]at e1;have HB:=Qa hb;clear hb h;go_enter func92,ntmps92;go_wp2
 all_goals (go_ret;refine⟨UG ?_,rfl⟩;rw[Bool.eq_iff_iff];simp;omega)
theorem TK{α β:Type}{R:α→β→Prop}(n:Nat):∀(a:List (Nat × α)) (b:List (Nat × β)),a.map (·.1)=b.map (·.1)→(∀k (h:k<a.length) (h':k<b.length),R a[k].2 b[k].2)→
  (a.find? (fun x=>x.1==n)=none∧b.find? (fun x=>x.1==n)=none)∨∃x y,a.find? (fun x=>x.1==n)=some x∧b.find? (fun x=>x.1==n)=some y∧R x.2 y.2
 |[],[],_,_=>.inl ⟨rfl,rfl⟩
 |[],_::_,h,_=>by simp at h
 |_::_,[],h,_=>by simp at h
 |x::a,y::b,h,hr=>by
  simp only[List.map_cons,List.cons.injEq]at h;by_cases hx:x.1=n
  ·exact .inr ⟨x,y,by simp[hx],by simp[←h.1,hx],hr 0 (by simp) (by simp)⟩
  rcases TK n a b h.2 (fun k h1 h2=>hr (k+1) (by simpa using h1) (by simpa using h2))with⟨h1,h2⟩|⟨u,v,h1,h2,h3⟩
  ·exact .inl ⟨by simp[hx,h1],by simp[←h.1,hx,h2]⟩
  exact .inr ⟨u,v,by simp[hx,h1],by simp[←h.1,hx,h2],h3⟩
theorem Yc.SQ{m:Jf}(h:Yc w base B d m)(n:Nat)(hn:n<d.Qk.length):IX w base d.size (m.told n) (d.told n):=by
 have hl:m.wi.length=d.waits.length:=by have:=congrArg List.length h.wl;simpa using this
 have:=TK (R:=fun g v=>OF w base d.size g v) n m.wi.reverse d.waits.reverse (by rw[List.map_reverse,List.map_reverse,h.wl]) (fun k h1 h2=>by
  rw[List.getElem_reverse,List.getElem_reverse];have e:m.wi.length-1-k=d.waits.length-1-k:=by omega
  simp only[List.length_reverse]at h1 h2;have:=h.wait (d.waits.length-1-k) (by omega) (by omega);simp only[e];exact this)
 unfold Jf.told Qq.told;rcases this with⟨h1,h2⟩|⟨x,y,h1,h2,h3⟩
 ·rw[h1,h2];exact h.last n hn
 rw[h1,h2];exact h3
theorem VI:prog.underlying 43=some (.slice 5):=by kernel_rfl
theorem Tu:(prog.info? 5).map (fun i=>(i.zero,i.size,i.bytes))=some (some (.int .u8 0),1,1):=by kernel_rfl
def JI(n:Nat):Array Value:=((List.replicate n (0:UInt8)).map Ks).toArray
theorem LF(n:Nat):madeCells (Value.int .u8 0).cells n=JI n:=by
 unfold madeCells JI;apply Array.ext
 ·simp
 intro i h1 h2;simp[Value.cells,Nat.mod_one,Ks]
theorem Yl(n:Int)(h0:0≤n)(h1:n≤65536)(W:World):
  (Instr.makeSlice 43 (.int .i64 n) (.int .i64 n)).run prog W=.ok (.slice (some ⟨W.heap.size,0,none⟩) n.toNat n.toNat) (W.alloc (.cells (JI n.toNat) 5)):=by
 obtain⟨i,hi,b,c,a⟩:=info_parts Tu;have:=run_make (P:=prog) W 43 5 i _ VI hi b .i64 .i64 n n h0 (Int.le_refl _) (by rw[a];omega) (by omega);rw[this,c,Nat.mul_one,LF]
end
end Go.Proofs.YtmgmfnimaafkdaaGreatDoor
