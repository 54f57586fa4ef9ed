/- The mark of the slice that is put next. -/
import Derived.Test.YtmgmfnimaafkdaaGreatDoorVT
import Derived.Test.YtmgmfnimaafkdaaGreatDoorVN
import Derived.Shelf.Abstract
namespace Go.Proofs.YtmgmfnimaafkdaaGreatDoor
section
open Go.RowKit Go.Maps Go.Shelf
set_option maxRecDepth 100000

theorem turnW_any {w : World} {base Lb B : Nat} {l : LogV} {d : DskV} (hL : LogW w base Lb B l) (hD : Dsk w base B d) (hs : Steps w) (hb2 : 2 < base) (hw : d.waits.length + 137438953472 < 2 ^ 40) (hsz : l.size = d.size) (he : l.epoch + 1 < 549755813888)
  (K : List RecM) (A : Option Addr) (c : Nat) (hK : Sl w 137 2 A K.length (recRows K)) (hKb : Bods w K) (hKl : K.length < 1099511627776) :
  Calls Tryz.prog 63 #[.pointer (some ⟨Lb, 0, none⟩), .slice A K.length c] w fun e w' => AddOutW w w' base Lb B (turnL d l (K.map (·.1))) e := by
 obtain ⟨rs, hl, hL⟩ := hL
 refine (turnL_any hL hD hs hb2 hw hsz he K A c hK hKb hKl).mono ?_
 rintro e w' ⟨h1, h2, h3, h4⟩
 obtain ⟨rs', g1, g2⟩ := turnL_re (d := d) (keep := K.map (·.1)) hl (show turnL d l (K.map (·.1)) = ((turnL d l (K.map (·.1))).1, (turnL d l (K.map (·.1))).2.1, (turnL d l (K.map (·.1))).2.2) from rfl)
 rw [g2] at h1 h2 h3
 exact ⟨h1, ⟨rs', g1, h2⟩, h3, h4⟩
theorem addL_like {d d1 : DskV} {l l1 : LogV} {r : RecL} {e : Nat} (hl : d.lasts.length ≤ 65536) (h : addL d l r = (e, d1, l1)) : d1.size = d.size ∧ d1.lasts.length = d.lasts.length ∧ d1.waits.length ≤ d.waits.length + 65536 ∧ (e ≠ 0 → l1 = l) := by
 unfold addL at h
 split at h
 ·injection h with h1 h; injection h with h2 h3; subst h1; subst h2; subst h3
  exact ⟨rfl, rfl, by omega, fun _ => rfl⟩
 ·split at h
  ·injection h with h1 h; injection h with h2 h3; subst h1; subst h2; subst h3
   exact ⟨rfl, rfl, by omega, fun _ => rfl⟩
  ·cases hp : putP d l.at' 82 (l.epoch * MARKS + l.recs.length + 1) (recB r) with
   | mk n q =>
    obtain ⟨e0, d0⟩ := q
    rw [hp] at h
    obtain ⟨a1, a2, a3⟩ := putP_like hl hp
    cases e0 with
    | zero =>
     injection h with h1 h; injection h with h2 h3; subst h1; subst h2; subst h3
     exact ⟨a1, a2, a3, fun hx => absurd rfl hx⟩
    | succ e0 =>
     injection h with h1 h; injection h with h2 h3; subst h1; subst h2; subst h3
     exact ⟨a1, a2, a3, fun _ => rfl⟩
theorem writeD_size (d : DskV) (n : Nat) (b : List UInt8) : (writeD d n b).2.size = d.size := by
 unfold writeD
 split
 ·rfl
 ·split <;> rfl
theorem flushD_size (d : DskV) : (flushD d).2.size = d.size := by
 unfold flushD; split <;> rfl
theorem putGo_size (kind mark : Nat) (b : List UInt8) (size a : Nat) : ∀ (k i : Nat) (d : DskV), (putGo kind mark b size a k i d).2.size = d.size
 | 0, _, _ => rfl
 | k + 1, i, d => by
  unfold putGo
  have h := writeD_size d (a + i) (secP size kind mark (b.drop (i * (size - 18))) (i == 0))
  rcases hq : writeD d (a + i) (secP size kind mark (b.drop (i * (size - 18))) (i == 0)) with ⟨e, d'⟩
  rw [hq] at h
  cases e with
  | zero => exact (putGo_size kind mark b size a k (i + 1) d').trans h
  | succ e => exact h
theorem putP_size (d : DskV) (a kind mark : Nat) (b : List UInt8) : (putP d a kind mark b).2.2.size = d.size := by
 unfold putP
 split
 ·rfl
 ·split
  ·rfl
  ·have h := putGo_size kind mark b d.size a (needP d.size b.length) 0 d
   rcases hq : putGo kind mark b d.size a (needP d.size b.length) 0 d with ⟨e, d'⟩
   rw [hq] at h
   cases e <;> exact h
theorem turnRecs_size (size epoch : Nat) : ∀ (rs : List RecL) (i a : Nat) (d : DskV), (turnRecs size epoch rs i a d).2.2.size = d.size
 | [], _, _, _ => rfl
 | r :: rs, i, a, d => by
  unfold turnRecs
  have h := putP_size d a 82 (epoch * MARKS + i + 1) (recB r)
  rcases hq : putP d a 82 (epoch * MARKS + i + 1) (recB r) with ⟨n, e, d'⟩
  rw [hq] at h
  cases e with
  | zero => exact (turnRecs_size size epoch rs (i + 1) (a + n) d').trans h
  | succ e => exact h
theorem zeros_size : ∀ (k n : Nat) (d : DskV), (zeros k n d).2.size = d.size
 | 0, _, _ => rfl
 | k + 1, n, d => by
  unfold zeros
  have h := writeD_size d n (List.replicate d.size 0)
  rcases hq : writeD d n (List.replicate d.size 0) with ⟨e, d'⟩
  rw [hq] at h
  cases e with
  | zero => exact (zeros_size k (n + 1) d').trans h
  | succ e => exact h
theorem turnGo_size (d : DskV) (l : LogV) (keep : List RecL) : (turnGo d l keep).2.1.size = d.size := by
 unfold turnGo
 simp only
 have h1 := turnRecs_size l.size (l.epoch + 1) keep 0 (l.begin (1 - l.use) + needP l.size 0) d
 rcases hq : turnRecs l.size (l.epoch + 1) keep 0 (l.begin (1 - l.use) + needP l.size 0) d with ⟨e1, a, d1⟩
 rw [hq] at h1
 cases e1 with
 | succ e => exact h1
 | zero =>
  simp only at h1 ⊢
  have h2 := zeros_size (l.begin (1 - l.use) + l.half - a) a d1
  rcases hq : zeros (l.begin (1 - l.use) + l.half - a) a d1 with ⟨e2, d2⟩
  rw [hq] at h2
  cases e2 with
  | succ e => exact h2.trans h1
  | zero =>
   simp only at h2 ⊢
   have h3 := flushD_size d2
   rcases hq : flushD d2 with ⟨e3, d3⟩
   rw [hq] at h3
   cases e3 with
   | succ e => exact h3.trans (h2.trans h1)
   | zero =>
    simp only at h3 ⊢
    have h4 := putP_size d3 (l.begin (1 - l.use)) 72 (l.epoch + 1) []
    rcases hq : putP d3 (l.begin (1 - l.use)) 72 (l.epoch + 1) [] with ⟨n, e4, d4⟩
    rw [hq] at h4
    cases e4 with
    | succ e => exact h4.trans (h3.trans (h2.trans h1))
    | zero =>
     simp only at h4 ⊢
     have h5 := flushD_size d4
     rcases hq : flushD d4 with ⟨e5, d5⟩
     rw [hq] at h5
     cases e5 <;> exact h5.trans (h4.trans (h3.trans (h2.trans h1)))
theorem turnL_size (d : DskV) (l : LogV) (keep : List RecL) : (turnL d l keep).2.1.size = d.size := by
 unfold turnL
 split
 ·rfl
 ·split
  ·rfl
  ·exact turnGo_size d l keep
def addTurn (s : StV) (r : RecL) : Nat × DskV × LogV := match addL s.d s.log r with
 | (5, d1, l1) => turnL d1 l1 (recordsS s)
 | x => x
theorem loggedS_eq (s was : StV) (r : RecL) : loggedS s was r = match addTurn s r with
  | (0, d, l) => (0, { s with d := d, log := l })
  | (e, d, l) => (e, { was with d := d, log := l }) := by
 unfold loggedS addTurn
 obtain ⟨e, d1, l1⟩ := addL s.d s.log r
 by_cases h0 : e = 0
 ·subst h0; rfl
 ·by_cases h5 : e = 5
  ·subst h5
   simp only
   obtain ⟨e2, d2, l2⟩ := turnL d1 l1 (recordsS s)
   cases e2 <;> rfl
  ·cases e with
   | zero => exact absurd rfl h0
   | succ e =>
    match e, h5 with
    | 0, _ => rfl
    | 1, _ => rfl
    | 2, _ => rfl
    | 3, _ => rfl
    | e + 5, _ => rfl
set_option maxHeartbeats 8000000 in
theorem logged_any {w : World} {base Sb : Nat} {s : StV} {m : StM} (h : StR w base Sb s m) (ok : StL s) (hwt : s.d.waits.length ≤ 824633720832 + 65536) (hep : s.log.epoch + 2 < 549755813888) (hat : s.log.at' ≤ s.log.begin s.log.use + s.log.half) (hsz : s.log.size = s.d.size)
  (r : RecL) (hk : r.1 < 256) (hr : r.2.length < 1099511627776) (A : Option Addr) (c : Nat) (hby : Byt w A r.2) (hc : r.2.length ≤ c) (hrec : (recordsS s).length ≤ 1000000000)
  (g : Nat) (lb : Array Value) (eg : ∀ args w, (callFunc g args).run Tryz.prog w = .ok (.enter g args) w) (R : World → Prop)
  (hok : ∀ w' d l, addTurn s r = (0, d, l) → Keeps base [121, 165, 167, 216, 137] w w' → StR w' base Sb { s with d := d, log := l } m → R w')
  (hun : ∀ wy e d l, addTurn s r = (e, d, l) → e ≠ 0 → Keeps base [121, 165, 167, 216, 137] w wy → StR wy base Sb { s with d := d, log := l } m → Calls Tryz.prog g lb wy fun en w' => en = .returned (.tuple #[]) ∧ R w') :
  Calls Tryz.prog 70 #[.pointer (some ⟨Sb, 0, none⟩), .agg #[.int .u8 r.1, .slice A r.2.length c], .func (.func g) #[] lb] w fun e w' => e = .returned (.int .i64 (addTurn s r).1) ∧ R w' := by
 have HH := hZ9 h
 have HK := hZ9 ok
 have HBY := hZ9 hby
 have hlt := h.lt
 have hll : s.d.lasts.length ≤ 65536 := by obtain ⟨m', hm⟩ := h.dsk; exact hm.n1.2
 have hb0 : Below w.heap.size w (w.alloc (.cells #[.int .u8 r.1, .slice A r.2.length c] 137)) := bR0.alloc nR0 _
 have HB0 := hZ9 hb0
 have HX0 := hZ9 (Blk.new w 137 #[.int .u8 r.1, .slice A r.2.length c])
 obtain ⟨e1, d1, l1, hadd⟩ : ∃ e1 d1 l1, addL s.d s.log r = (e1, d1, l1) := ⟨_, _, _, rfl⟩
 have hlike := addL_like hll hadd
 have HADD := hZ9 (show ∀ wy, Below w.heap.size w wy → Calls Tryz.prog 129 #[.pointer (some ⟨m.Lb, 0, none⟩), .agg #[.int .u8 r.1, .slice A r.2.length c]] wy fun e w' => e = .returned (.int .i64 (e1 : Nat)) ∧ LogW w' base m.Lb m.B l1 ∧ Dsk w' base m.B d1 ∧ Keeps base [121, 165, 167, 216, 137] wy w' from fun wy hy => by
  have hh := HH.out.below hy
  have := addW_any hh.log hh.dsk hh.tab.steps hh.b2 hat (by omega) hsz r hk A c (HBY.out.below hy) hr hc
  rw [hadd] at this
  exact this)
 clear h ok hby hb0
 go_enter Tryz.func70, Tryz.ntmps70
 go_upto_region 1 with fail
 generalize w.alloc (.cells #[.int .u8 r.1, .slice A r.2.length c] 137) = w1 at *
 have hw1 := HB0.out.size
 have SK := hZ9 (show ∀ wy, Keeps base [121, 165, 167, 216] w1 wy → wy.cell? ⟨Sb, 2, none⟩ = some (.pointer (some ⟨m.Lb, 0, none⟩)) ∧ wy.cell? ⟨w.heap.size, 0, none⟩ = some (.int .u8 r.1) ∧ wy.cell? ⟨w.heap.size, 1, none⟩ = some (.slice A r.2.length c) from fun wy hy => by
  have hs := ((HH.out.below HB0.out).blk).keeps hy (by decide)
  have hx := HX0.out.keeps hy (by decide)
  exact ⟨hs.cell 2, hx.cell 0, hx.cell 1⟩)
 have hbw1 : base ≤ w1.heap.size := by omega
 have S0 := hZ9 (SK.out _ (Keeps.of_below bR0.drew hbw1))
 obtain ⟨s1, s2, s3⟩ := S0.out
 have hlt1 : Sb < w1.heap.size := Nat.lt_of_lt_of_le HH.out.blk.lt hw1
 have hx1 := HX0.out.lt
 have HT : Hid (addTurn s r = if e1 = 5 then turnL d1 l1 (recordsS s) else (e1, d1, l1)) := by
  show addTurn s r = if e1 = 5 then turnL d1 l1 (recordsS s) else (e1, d1, l1)
  unfold addTurn
  rw [hadd]
  split
  ·rename_i h5; injection h5 with h5 h6; injection h6 with h6 h7; rw [if_pos h5, h6, h7]
  ·rename_i h5
   rw [if_neg (fun e => h5 d1 l1 (by rw [e]))]
 go_cut [7] (fun v wx => v = .int .i64 (e1 : Nat) ∧ StR wx base Sb { s with d := d1, log := l1 } m ∧ Keeps base [121, 165, 167, 216, 137] w wx)
 case first =>
  go_region_law (first | (go_simp; go_at_call 129; refine (HADD.out _ (HB0.out.trans (bR0.drew.mono hw1))).mono ?_; rintro en w2 ⟨rfl, hl2, hd2, hk2⟩; (have HL2 := hZ9 hl2); (have HD2 := hZ9 hd2); (have HK2 := hZ9 hk2); clear hl2 hd2 hk2))
  all_goals
   go_wp2_with fail
   go_meet
   have kk := (Keeps.of_below (base := base) (ts := [121, 165, 167, 216, 137]) (HB0.out.trans (bR0.drew.mono hw1)) hlt).trans HK2.out
   exact ⟨rfl, HH.out.logged kk HD2.out HL2.out hlike.1, kk⟩
 case rest =>
  obtain ⟨rfl, hst1, hk1⟩ := hcut
  have HST := hZ9 hst1
  have HK1 := hZ9 hk1
  have hbw2 : base ≤ wc.heap.size := Nat.le_trans hlt hk1.below.size
  clear s1 s2 s3 S0 SK HADD HX0 hlt1 hx1 hk1 HB0 hw1 hbw1
  by_cases h5 : e1 = 5
  ·have h5' : ((e1 : Int) == 5) = true := by rw [h5]; rfl
   have HT2 : Hid (addTurn s r = turnL d1 l1 (recordsS s)) := by
    show addTurn s r = turnL d1 l1 (recordsS s)
    rw [HT.out, if_pos h5]
   obtain ⟨e2, d2, l2, htu⟩ : ∃ e2 d2 l2, turnL d1 l1 (recordsS s) = (e2, d2, l2) := ⟨_, _, _, rfl⟩
   rw [htu] at HT2
   have hl1 : l1 = s.log := hlike.2.2.2 (by omega)
   have HREC := hZ9 (show ∀ wy, Below wc.heap.size wc wy → Calls Tryz.prog 64 #[.pointer (some ⟨Sb, 0, none⟩)] wy fun e w' => ∃ L A c, e = .returned (.slice A (recordsS s).length c) ∧ RecsW wy w' (recordsS s) (recordsS s).length L (.slice A (recordsS s).length c) from fun wy hy => records_any (s := { s with d := d1, log := l1 }) (HST.out.below hy) (HK.out.logged d1 l1))
   have HTU := hZ9 (show ∀ wy w3 L A c, Below wc.heap.size wc wy → RecsW wy w3 (recordsS s) (recordsS s).length L (.slice A (recordsS s).length c) → Calls Tryz.prog 63 #[.pointer (some ⟨m.Lb, 0, none⟩), .slice A (recordsS s).length c] w3 fun e w' => e = .returned (.int .i64 (e2 : Nat)) ∧ StR w' base Sb { s with d := d2, log := l2 } m ∧ Keeps base [121, 165, 167, 216, 137] wc w' from fun wy w3 L A c hy hR => by
    have hb3 : Below wc.heap.size wc w3 := hy.trans (hR.below.mono hy.size)
    have hh := HST.out.below hb3
    have hL : L.map (·.1) = recordsS s := by rw [hR.rcs, List.take_length]
    have h2 : d1.size = s.d.size := hlike.1
    have := turnW_any hh.log hh.dsk hh.tab.steps hh.b2 (by have := hlike.2.2.1; show d1.waits.length + 137438953472 < 2 ^ 40; omega) (by rw [hl1]; exact hsz.trans h2.symm) (by show l1.epoch + 1 < 549755813888; rw [hl1]; omega) L A c (by rw [hR.len]; exact Sl.of_own hR.own) hR.bod (by rw [hR.len]; omega)
    rw [hL, hR.len, htu] at this
    refine this.mono ?_
    rintro e w' ⟨h1, h2', h3, h4⟩
    have kk := (Keeps.of_below (base := base) (ts := [121, 165, 167, 216, 137]) hb3 hbw2).trans h4
    have hsz2 : d2.size = d1.size := by
     have := turnL_size d1 l1 (recordsS s)
     rw [htu] at this
     exact this
    exact ⟨h1, (HST.out.logged kk h3 h2' hsz2), kk⟩)
   have SK := hZ9 (show ∀ wy, Keeps base [121, 165, 167, 216, 137] wc wy → wy.cell? ⟨Sb, 2, none⟩ = some (.pointer (some ⟨m.Lb, 0, none⟩)) from fun wy hy => (HST.out.blk.keeps hy (by decide)).cell 2)
   have S0 := hZ9 (SK.out _ (Keeps.of_below bR0.drew hbw2))
   clear hst1 htu
   subst h5
   generalize (recordsS s).length = nr at *
   go_upto_region 3 with fail
   go_region_held3 (fun wy => wy.cell? ⟨Sb, 2, none⟩ = some (.pointer (some ⟨m.Lb, 0, none⟩)))
    (first | exact SK.out _ HK4.out | exact SK.out _ (Keeps.of_below HB3.out hbw2) | exact S0.out)
    (first
     | (go_at_call 64; refine (HREC.out _ bR0.drew).mono ?_; rintro en w3 ⟨L, A3, c3, rfl, hR⟩; (have HR := hZ9 hR); (have HB3 : Hid (Below wc.heap.size wc w3) := bR0.drew.trans hR.below); clear hR)
     | (go_at_call 63; refine (HTU.out _ _ _ _ _ bR0.drew HR.out).mono ?_; rintro en w4 ⟨rfl, hs4, hk4⟩; (have HS4 := hZ9 hs4); (have HK4 := hZ9 hk4); clear hs4 hk4))
   by_cases he2 : e2 = 0
   ·subst he2
    go_wp2_with fail
    go_ret
    exact ⟨by rw [HT2.out]; rfl, hok _ d2 l2 HT2.out (HK1.out.trans (by have := HK4.out; exact this)) HS4.out⟩
   ·have hen : ((e2 : Int) != 0) = true := by simp; omega
    have HU := hZ9 (hun w4 e2 d2 l2 HT2.out he2 (HK1.out.trans HK4.out) HS4.out)
    go_wp2_with (go_at_fn g; refine HU.out.mono ?_; rintro en w5 ⟨rfl, h5⟩; (have H5 := hZ9 h5); clear h5)
    go_ret
    exact ⟨by rw [HT2.out]; rfl, H5.out⟩
  ·have h5' : ((e1 : Int) == 5) = false := by simp; omega
   have HT2 : Hid (addTurn s r = (e1, d1, l1)) := by
    show addTurn s r = (e1, d1, l1)
    rw [HT.out, if_neg h5]
   by_cases he1 : e1 = 0
   ·subst he1
    go_wp2_with fail
    go_ret
    exact ⟨by rw [HT2.out]; rfl, hok _ d1 l1 HT2.out HK1.out HST.out⟩
   ·have hen : ((e1 : Int) != 0) = true := by simp; omega
    have HU := hZ9 (hun wc e1 d1 l1 HT2.out he1 HK1.out HST.out)
    go_wp2_with (go_at_fn g; refine HU.out.mono ?_; rintro en w5 ⟨rfl, h5⟩; (have H5 := hZ9 h5); clear h5)
    go_ret
    exact ⟨by rw [HT2.out]; rfl, H5.out⟩
end
section
open Go.RowKit Go.Maps Go.Shelf Go.Sort
set_option maxRecDepth 100000

theorem StR.puts8 {w : World} {base Sb : Nat} {s : StV} {m : StM} (h : StR w base Sb s m) (p : Nat) :
  StR (w.setCell ⟨Sb, 8, none⟩ (.int .i64 p)) base Sb { s with puts := p } m ∧ Keeps base [129] w (w.setCell ⟨Sb, 8, none⟩ (.int .i64 p)) := by
 have s1 := h.blk.set 8 (.int .i64 p)
 have k := (Keeps.refl base [129] w).set (o := 8) h.blk h.low (by simp) (.int .i64 p)
 exact ⟨⟨h.low, s1, h.dsk.keeps k (by decide) (by decide) (by decide) (by decide) (by decide), h.log.keeps k (by decide) (by decide) (by decide), h.map.keeps k (by decide) (by decide), h.nmap.keeps k (by decide), h.nlow, h.pmap.keeps k (by decide), h.plow, h.ne, own_keeps h.mks k (by decide), h.tab.below k.below, h.b2⟩, k⟩
def goS (s : StV) : Nat × Int × StV :=
 let s := if s.epoch ≠ s.log.epoch then { s with epoch := s.log.epoch, puts := 0 } else s
 (0, (s.epoch * 1048576 + (s.puts + 1) : Int), { s with puts := s.puts + 1 })
theorem nextS_eq (s : StV) : nextS s = if s.epoch = s.log.epoch ∧ s.puts = 1048575 then (match turnL s.d s.log (recordsS s) with
  | (0, d1, l1) => goS { s with d := d1, log := l1 }
  | (e, d1, l1) => (e, 0, { s with d := d1, log := l1 })) else goS s := rfl
theorem turnGo_epoch (d : DskV) (l : LogV) (keep : List RecL) : (turnGo d l keep).2.2.epoch ≤ l.epoch + 1 := by
 unfold turnGo
 simp only
 rcases turnRecs l.size (l.epoch + 1) keep 0 (l.begin (1 - l.use) + needP l.size 0) d with ⟨e1, a, d1⟩
 cases e1 with
 | succ e => exact Nat.le_succ _
 | zero =>
  simp only
  rcases zeros (l.begin (1 - l.use) + l.half - a) a d1 with ⟨e2, d2⟩
  cases e2 with
  | succ e => exact Nat.le_succ _
  | zero =>
   simp only
   rcases flushD d2 with ⟨e3, d3⟩
   cases e3 with
   | succ e => exact Nat.le_succ _
   | zero =>
    simp only
    rcases putP d3 (l.begin (1 - l.use)) 72 (l.epoch + 1) [] with ⟨n, e4, d4⟩
    cases e4 with
    | succ e => exact Nat.le_succ _
    | zero =>
     simp only
     rcases flushD d4 with ⟨e5, d5⟩
     cases e5 with
     | zero => exact nR0
     | succ e => exact Nat.le_succ _
theorem turnL_epoch (d : DskV) (l : LogV) (keep : List RecL) : (turnL d l keep).2.2.epoch ≤ l.epoch + 1 := by
 unfold turnL
 split
 ·exact Nat.le_succ _
 ·split
  ·exact Nat.le_succ _
  ·exact turnGo_epoch d l keep
def NextOut (w w' : World) (base Sb : Nat) (m : StM) (r : Nat × Int × StV) (e : Ending) : Prop := e = .returned (.tuple #[.int .i64 r.2.1, .int .i64 r.1]) ∧ StR w' base Sb r.2.2 m ∧ Keeps base [121, 165, 167, 216, 137, 129] w w'
set_option maxHeartbeats 8000000 in
theorem next_any {w : World} {base Sb : Nat} {s : StV} {m : StM} (h : StR w base Sb s m) (ok : StL s) (hwt : s.d.waits.length ≤ 824633720832 + 65536) (hep : s.log.epoch + 2 < 549755813888) (hsz : s.log.size = s.d.size) (hse : s.epoch < 549755813888) (hp : s.puts ≤ 1048576) :
  Calls Tryz.prog 106 #[.pointer (some ⟨Sb, 0, none⟩)] w fun e w' => NextOut w w' base Sb m (nextS s) e := by
 have HH := hZ9 h
 have HK := hZ9 ok
 have hlt := h.lt
 have hsl := h.blk.lt
 have HEP := hZ9 (show ∀ wy, Below w.heap.size w wy → Calls Tryz.prog 159 #[.pointer (some ⟨m.Lb, 0, none⟩)] wy fun e w' => e = .returned (.int .i64 (s.log.epoch : Nat)) ∧ wy = w' from fun wy hy => epochW_any (HH.out.below hy).log)
 have SK := hZ9 (show ∀ wy, Below w.heap.size w wy → wy.cell? ⟨Sb, 2, none⟩ = some (.pointer (some ⟨m.Lb, 0, none⟩)) ∧ wy.cell? ⟨Sb, 7, none⟩ = some (.int .i64 s.epoch) ∧ wy.cell? ⟨Sb, 8, none⟩ = some (.int .i64 s.puts) from fun wy hy => by
  have hb := (HH.out.below hy).blk
  exact ⟨hb.cell 2, hb.cell 7, hb.cell 8⟩)
 have S0 := hZ9 (SK.out _ bR0.drew)
 obtain ⟨q, hq⟩ : ∃ q, q = nextS s := ⟨_, rfl⟩
 rw [← hq]
 rw [nextS_eq] at hq
 have HQ := hZ9 hq
 clear h ok hq
 go_enter Tryz.func106, Tryz.ntmps106
 go_upto_region 1 with fail
 have hcomp : (s.epoch = s.log.epoch ∨ s.epoch ≠ s.log.epoch) := Classical.em _
 go_cut [21] (fun v wx => v = .bool (decide (s.epoch = s.log.epoch ∧ s.puts = 1048575)) ∧ Below w.heap.size w wx)
 case first =>
  rcases hcomp with he | he
  ·have he' : ((s.epoch : Int) == (s.log.epoch : Int)) = true := by simp [he]
   go_region_held3 (fun wy => wy.cell? ⟨Sb, 2, none⟩ = some (.pointer (some ⟨m.Lb, 0, none⟩)) ∧ wy.cell? ⟨Sb, 7, none⟩ = some (.int .i64 s.epoch) ∧ wy.cell? ⟨Sb, 8, none⟩ = some (.int .i64 s.puts))
    (first | exact S0.out)
    (first | (go_at_call 159; refine (HEP.out _ bR0.drew).mono ?_; rintro en w2 ⟨rfl, rfl⟩))
   all_goals
    go_wp2_with fail
    go_meet
    refine ⟨?_, bR0.drew⟩
    congr 1
    rw [Bool.eq_iff_iff]
    simp [he]
    try omega
  ·have he' : ((s.epoch : Int) == (s.log.epoch : Int)) = false := by simp; omega
   obtain ⟨a2, a7, a8⟩ := SK.out _ bR0
   have r2 := cell_regrown a2
   have r7 := cell_regrown a7
   have c159 : ∀ d os, Calls Tryz.prog 159 #[.pointer (some ⟨m.Lb, 0, none⟩)] (grow (redrawn w d) os) fun en w'' => en = .returned (.int .i64 (s.log.epoch : Nat)) ∧ ∃ p : Regrown, w'' = grow (redrawn w p.d) p.os := fun d os =>
    Calls.regrown_of ((HEP.out _ (below_regrown w d os)).mono fun _ _ ⟨h1, h2⟩ => ⟨h1, h2 ▸ bR0⟩)
   refine wp_region_quiet_below (by kernel_rfl) (by kernel_rfl) ?_
   repeat (go_big_quiet_step (exact c159 _ _))
   refine wpQuiet_nil ?_
   intro _ hw'
   obtain ⟨⟨dq, osq⟩, hw''⟩ := hw'
   subst hw''
   go_wp2_with fail
   go_meet
   exact ⟨by simp [he], below_regrown w dq osq⟩
 case rest =>
  obtain ⟨rfl, hbc⟩ := hcut
  have hh : StR wc base Sb s m := HH.out.below hbc
  have kk : Keeps base [121, 165, 167, 216, 137, 129] w wc := Keeps.of_below hbc hlt
  have HH2 := hZ9 hh
  have HKK := hZ9 kk
  have hlc : base ≤ wc.heap.size := Nat.le_trans hlt hbc.size
  have hcase : (s.epoch = s.log.epoch ∧ s.puts = 1048575) ∨ ¬ (s.epoch = s.log.epoch ∧ s.puts = 1048575) := Classical.em _
  clear hh kk hbc S0 SK HEP hcomp
  obtain ⟨bq, hbq⟩ : ∃ bq, bq = decide (s.epoch = s.log.epoch ∧ s.puts = 1048575) := ⟨_, rfl⟩
  rw [← hbq]
  have HBQ := hZ9 hbq
  clear hbq
  go_upto_if 21 with fail
  go_cut [4] (fun _ wx => ∃ s2 : StV, StR wx base Sb s2 m ∧ Keeps base [121, 165, 167, 216, 137, 129] w wx ∧ q = goS s2 ∧ s2.epoch < 549755813888 ∧ s2.puts ≤ 1048576 ∧ s2.log.epoch < 549755813888)
  case first =>
   rcases hcase with hc | hc
   ·have hb0 : bq = true := by rw [HBQ.out]; exact decide_eq_true hc
    subst hb0
    obtain ⟨e2, d2, l2, htu⟩ : ∃ e2 d2 l2, turnL s.d s.log (recordsS s) = (e2, d2, l2) := ⟨_, _, _, rfl⟩
    have hq1 : q = match ((e2, d2, l2) : Nat × DskV × LogV) with
      | (0, d1, l1) => goS { s with d := d1, log := l1 }
      | (e, d1, l1) => (e, 0, { s with d := d1, log := l1 }) := by rw [HQ.out, if_pos hc, htu]
    have hle := turnL_epoch s.d s.log (recordsS s)
    have hsz2 := turnL_size s.d s.log (recordsS s)
    rw [htu] at hle hsz2
    have HREC := hZ9 (show ∀ wy, Below wc.heap.size wc wy → Calls Tryz.prog 64 #[.pointer (some ⟨Sb, 0, none⟩)] wy fun e w' => ∃ L A c, e = .returned (.slice A (recordsS s).length c) ∧ RecsW wy w' (recordsS s) (recordsS s).length L (.slice A (recordsS s).length c) from fun wy hy => records_any (HH2.out.below hy) HK.out)
    have hrl : (recordsS s).length ≤ 300003 := by
     have a1 := HK.out.nN; have a2 := HK.out.nS; have a3 := HK.out.nM
     rw [records_eq, List.length_append, List.length_append, List.length_map, List.length_map, List.length_map]
     omega
    have HTU := hZ9 (show ∀ wy w3 L A c, Below wc.heap.size wc wy → RecsW wy w3 (recordsS s) (recordsS s).length L (.slice A (recordsS s).length c) → Calls Tryz.prog 63 #[.pointer (some ⟨m.Lb, 0, none⟩), .slice A (recordsS s).length c] w3 fun e w' => e = .returned (.int .i64 (e2 : Nat)) ∧ StR w' base Sb { s with d := d2, log := l2 } m ∧ Keeps base [121, 165, 167, 216, 137] wc w' from fun wy w3 L A c hy hR => by
     have hb3 : Below wc.heap.size wc w3 := hy.trans (hR.below.mono hy.size)
     have hh := HH2.out.below hb3
     have hL : L.map (·.1) = recordsS s := by rw [hR.rcs, List.take_length]
     have := turnW_any hh.log hh.dsk hh.tab.steps hh.b2 (by omega) hsz (by omega) L A c (by rw [hR.len]; exact Sl.of_own hR.own) hR.bod (by rw [hR.len]; omega)
     rw [hL, hR.len, htu] at this
     refine this.mono ?_
     rintro e w' ⟨h1, h2', h3, h4⟩
     have kk := (Keeps.of_below (base := base) (ts := [121, 165, 167, 216, 137]) hb3 hlc).trans h4
     exact ⟨h1, (HH2.out.logged kk h3 h2' hsz2), kk⟩)
    have SK := hZ9 (show ∀ wy, Keeps base [121, 165, 167, 216, 137] wc wy → wy.cell? ⟨Sb, 2, none⟩ = some (.pointer (some ⟨m.Lb, 0, none⟩)) from fun wy hy => (HH2.out.blk.keeps hy (by decide)).cell 2)
    have S0 := hZ9 (SK.out _ (Keeps.of_below bR0.drew hlc))
    have HQ1 := hZ9 hq1
    clear htu hq1 hc
    generalize (recordsS s).length = nr at *
    go_upto_region 2 with fail
    go_region_held3 (fun wy => wy.cell? ⟨Sb, 2, none⟩ = some (.pointer (some ⟨m.Lb, 0, none⟩)))
     (first | exact SK.out _ HK4.out | exact SK.out _ (Keeps.of_below HB3.out hlc) | exact S0.out)
     (first
      | (go_at_call 64; refine (HREC.out _ bR0.drew).mono ?_; rintro en w3 ⟨L, A3, c3, rfl, hR⟩; (have HR := hZ9 hR); (have HB3 : Hid (Below wc.heap.size wc w3) := bR0.drew.trans hR.below); clear hR)
      | (go_at_call 63; refine (HTU.out _ _ _ _ _ bR0.drew HR.out).mono ?_; rintro en w4 ⟨rfl, hs4, hk4⟩; (have HS4 := hZ9 hs4); (have HK4 := hZ9 hk4); clear hs4 hk4))
    have k9 := hZ9 (HKK.out.trans (HK4.out.mono nR0 (ts' := [121, 165, 167, 216, 137, 129]) (by simp)))
    by_cases he2 : e2 = 0
    ·subst he2
     go_wp2_with fail
     go_meet
     exact ⟨{ s with d := d2, log := l2 }, HS4.out, k9.out, HQ1.out, hse, hp, by show l2.epoch < 549755813888; omega⟩
    ·have hen : ((e2 : Int) != 0) = true := by simp; omega
     have hq9 : q = (e2, 0, { s with d := d2, log := l2 }) := by
      rw [HQ1.out]
      cases e2 with
      | zero => exact absurd rfl he2
      | succ e => rfl
     have HQ9 := hZ9 hq9
     clear hq9
     go_wp2_with fail
     go_ret2
     rw [HQ9.out]
     exact ⟨rfl, HS4.out, k9.out⟩
   ·have hq1 : q = goS s := by rw [HQ.out, if_neg hc]
    have hb0 : bq = false := by rw [HBQ.out]; exact decide_eq_false hc
    subst hb0
    have HQ1 := hZ9 hq1
    clear hq1 hc
    go_wp2_with fail
    go_meet
    exact ⟨s, HH2.out, HKK.out, HQ1.out, hse, hp, by omega⟩
  case rest =>
   obtain ⟨s2, hs2, hk2, hq2, e2, p2, l2⟩ := hcut
   have HS2 := hZ9 hs2
   have HK2 := hZ9 hk2
   have HQ2 := hZ9 hq2
   have hsl2 := hs2.blk.lt
   have hbw2 := hs2.lt
   obtain ⟨a2, a7, a8⟩ : wc.cell? ⟨Sb, 2, none⟩ = some (.pointer (some ⟨m.Lb, 0, none⟩)) ∧ wc.cell? ⟨Sb, 7, none⟩ = some (.int .i64 s2.epoch) ∧ wc.cell? ⟨Sb, 8, none⟩ = some (.int .i64 s2.puts) := ⟨hs2.blk.cell 2, hs2.blk.cell 7, hs2.blk.cell 8⟩
   have r2 := cell_regrown a2
   have r7 := cell_regrown a7
   have HEP := hZ9 (show ∀ wy, Below wc.heap.size wc wy → Calls Tryz.prog 159 #[.pointer (some ⟨m.Lb, 0, none⟩)] wy fun e w' => e = .returned (.int .i64 (s2.log.epoch : Nat)) ∧ wy = w' from fun wy hy => epochW_any (HS2.out.below hy).log)
   have c159 : ∀ d os, Calls Tryz.prog 159 #[.pointer (some ⟨m.Lb, 0, none⟩)] (grow (redrawn wc d) os) fun en w'' => en = .returned (.int .i64 (s2.log.epoch : Nat)) ∧ ∃ p : Regrown, w'' = grow (redrawn wc p.d) p.os := fun d os =>
    Calls.regrown_of ((HEP.out _ (below_regrown wc d os)).mono fun _ _ ⟨h1, h2⟩ => ⟨h1, h2 ▸ bR0⟩)
   clear hs2 hk2 hq2
   go_upto_region 5 with fail
   refine wp_region_quiet_below (by kernel_rfl) (by kernel_rfl) ?_
   repeat (go_big_quiet_step (exact c159 _ _))
   refine wpQuiet_nil ?_
   intro _ hw'
   obtain ⟨⟨dq, osq⟩, hw''⟩ := hw'
   subst hw''
   have hb6 := below_regrown wc dq osq
   have h6 := HS2.out.below hb6
   have HS6 := hZ9 h6
   have HK6 := hZ9 (HK2.out.trans (Keeps.of_below (base := base) (ts := [121, 165, 167, 216, 137, 129]) hb6 hbw2))
   have HEP6 := hZ9 (show ∀ wy, Below (grow (redrawn wc dq) osq).heap.size (grow (redrawn wc dq) osq) wy → Calls Tryz.prog 159 #[.pointer (some ⟨m.Lb, 0, none⟩)] wy fun e w' => e = .returned (.int .i64 (s2.log.epoch : Nat)) ∧ wy = w' from fun wy hy => HEP.out wy (hb6.trans (hy.mono hb6.size)))
   clear r2 r7 c159 a2 a7 a8 hb6 h6 hbw2 hsl2
   generalize grow (redrawn wc dq) osq = w6 at *
   have lt6 := HS6.out.blk.lt
   have f7 := HS6.out.blk.free 7
   have f8 := HS6.out.blk.free 8
   obtain ⟨b2, b7, b8⟩ : w6.cell? ⟨Sb, 2, none⟩ = some (.pointer (some ⟨m.Lb, 0, none⟩)) ∧ w6.cell? ⟨Sb, 7, none⟩ = some (.int .i64 s2.epoch) ∧ w6.cell? ⟨Sb, 8, none⟩ = some (.int .i64 s2.puts) := ⟨HS6.out.blk.cell 2, HS6.out.blk.cell 7, HS6.out.blk.cell 8⟩
   by_cases hne : s2.epoch = s2.log.epoch
   ·have hne' : ((s2.epoch : Int) != (s2.log.epoch : Int)) = false := by simp [hne]
    have hq9 : q = (0, (s2.epoch : Int) * 1048576 + ((s2.puts : Int) + 1), { s2 with puts := s2.puts + 1 }) := by
     rw [HQ2.out]; unfold goS; simp [hne]
    have HQ9 := hZ9 hq9
    clear hq9 hne HQ2
    go_upto_region 8 with fail
    obtain ⟨h9, k9⟩ := HS6.out.puts8 (s2.puts + 1)
    rw [Int.natCast_add] at h9 k9
    have H9 := hZ9 h9
    have K9 := hZ9 (HK6.out.trans (k9.mono nR0 (ts' := [121, 165, 167, 216, 137, 129]) (by simp)))
    have c7 : (w6.setCell ⟨Sb, 8, none⟩ (.int .i64 ((s2.puts : Int) + 1))).cell? ⟨Sb, 7, none⟩ = some (.int .i64 s2.epoch) := h9.blk.cell 7
    have c8 : (w6.setCell ⟨Sb, 8, none⟩ (.int .i64 ((s2.puts : Int) + 1))).cell? ⟨Sb, 8, none⟩ = some (.int .i64 ((s2.puts : Int) + 1)) := h9.blk.cell 8
    have l9 : Sb < (w6.setCell ⟨Sb, 8, none⟩ (.int .i64 ((s2.puts : Int) + 1))).heap.size := h9.blk.lt
    have hbd := h9.lt
    have q1 : IntKind.i64.wrap ((s2.epoch : Int) * 1048576) = (s2.epoch : Int) * 1048576 := by rw [IntKind.wrap_i64]; omega
    have q2 : IntKind.i64.wrap ((s2.epoch : Int) * 1048576 + ((s2.puts : Int) + 1)) = (s2.epoch : Int) * 1048576 + ((s2.puts : Int) + 1) := by rw [IntKind.wrap_i64]; omega
    clear h9 k9 b2 b7 b8 f7 f8 lt6
    generalize w6.setCell ⟨Sb, 8, none⟩ (.int .i64 ((s2.puts : Int) + 1)) = w9 at *
    go_quiet (fail)
    go_wp2_with fail
    go_ret2
    rw [HQ9.out]
    exact ⟨rfl, H9.out.below (bl_drewN bR0 _), K9.out.trans (Keeps.of_below (bl_drewN bR0 _) hbd)⟩
   ·have hne' : ((s2.epoch : Int) != (s2.log.epoch : Int)) = true := by simp; omega
    have hq9 : q = (0, (s2.log.epoch : Int) * 1048576 + 1, { s2 with epoch := s2.log.epoch, puts := 1 }) := by
     rw [HQ2.out]; unfold goS; simp [hne]
    have HQ9 := hZ9 hq9
    clear hq9 hne HQ2
    go_upto_region 7 with (go_at_call 159; refine (HEP6.out _ bR0).mono ?_; rintro en w' ⟨rfl, rfl⟩)
    obtain ⟨h9, k9⟩ := HS6.out.counted s2.log.epoch 0
    have hz : ((0 : Nat) : Int) = 0 := rfl
    rw [hz] at h9 k9
    have K9 := hZ9 (HK6.out.trans (k9.mono nR0 (ts' := [121, 165, 167, 216, 137, 129]) (by simp)))
    have H9 := hZ9 h9
    have g8 := h9.blk.free 8
    have e8 : ((w6.setCell ⟨Sb, 7, none⟩ (.int .i64 s2.log.epoch)).setCell ⟨Sb, 8, none⟩ (.int .i64 0)).cell? ⟨Sb, 8, none⟩ = some (.int .i64 0) := h9.blk.cell 8
    have l9 := h9.blk.lt
    clear h9 k9 b2 b7 b8 f7 f8 lt6 hz
    generalize (w6.setCell ⟨Sb, 7, none⟩ (.int .i64 s2.log.epoch)).setCell ⟨Sb, 8, none⟩ (.int .i64 0) = w8 at *
    go_upto_region 8 with fail
    obtain ⟨h10, k10⟩ := H9.out.puts8 1
    have hz : ((1 : Nat) : Int) = 1 := rfl
    rw [hz] at h10 k10
    have H10 := hZ9 h10
    have K10 := hZ9 (K9.out.trans (k10.mono nR0 (ts' := [121, 165, 167, 216, 137, 129]) (by simp)))
    have c7 : (w8.setCell ⟨Sb, 8, none⟩ (.int .i64 1)).cell? ⟨Sb, 7, none⟩ = some (.int .i64 s2.log.epoch) := h10.blk.cell 7
    have c8 : (w8.setCell ⟨Sb, 8, none⟩ (.int .i64 1)).cell? ⟨Sb, 8, none⟩ = some (.int .i64 1) := h10.blk.cell 8
    have l10 : Sb < (w8.setCell ⟨Sb, 8, none⟩ (.int .i64 1)).heap.size := h10.blk.lt
    have hbd := h10.lt
    have q1 : IntKind.i64.wrap ((s2.log.epoch : Int) * 1048576) = (s2.log.epoch : Int) * 1048576 := by rw [IntKind.wrap_i64]; omega
    have q2 : IntKind.i64.wrap ((s2.log.epoch : Int) * 1048576 + 1) = (s2.log.epoch : Int) * 1048576 + 1 := by rw [IntKind.wrap_i64]; omega
    clear h10 k10 g8 e8 l9 hz
    generalize w8.setCell ⟨Sb, 8, none⟩ (.int .i64 1) = w9 at *
    go_quiet (fail)
    go_wp2_with fail
    go_ret2
    rw [HQ9.out]
    exact ⟨rfl, H10.out.below (bl_drewN bR0 _), K10.out.trans (Keeps.of_below (bl_drewN bR0 _) hbd)⟩
end
end Go.Proofs.YtmgmfnimaafkdaaGreatDoor
