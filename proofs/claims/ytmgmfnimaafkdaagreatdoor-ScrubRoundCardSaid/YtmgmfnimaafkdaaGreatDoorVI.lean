/- A record read from sectors. -/
import Derived.Test.YtmgmfnimaafkdaaGreatDoorVH
namespace Go.Proofs.YtmgmfnimaafkdaaGreatDoor
open Go.RowKit Go.Maps
set_option maxRecDepth 100000

theorem results_tmp5 {fn : Func} {a b c d e : Tmp} (h : fn.results = #[.tmp a, .tmp b, .tmp c, .tmp d, .tmp e]) (tmps : Array Value) (P : Program) (w : World) :
  (results fn tmps).run P w = .ok (.tuple #[tmps.getD a undef, tmps.getD b undef, tmps.getD c undef, tmps.getD d undef, tmps.getD e undef]) w := by
 simp [results, h]
theorem Steps.below' {w w' : World} (h : Steps w) (hb : Below w.heap.size w w') : Steps w' := h.below hb
theorem readD_len {w : World} {base B n : Nat} {d : DskV} {s : List UInt8} (h : Dsk w base B d) (hr : readD d n = (0, s)) : s.length = d.size := by
 obtain ⟨m, h⟩ := h
 unfold readD at hr
 split at hr
 ·simp at hr
 ·rename_i hn
  split at hr
  ·simp at hr
  ·have hs := h.told_at n (by omega)
   cases ht : d.told n with
   | torn => rw [ht] at hr; simp at hr
   | zero => rw [ht] at hr; injection hr with _ hr; subst hr; simp
   | data b t =>
    rw [ht] at hr hs
    injection hr with _ hr
    subst hr
    cases hq : m.told n with
    | none => rw [hq] at hs; simp [SecAt] at hs
    | some g => rw [hq] at hs; exact hs.1
theorem secOf_bounds {s : List UInt8} {x : Sec} (h : secOf s = some x) : x.kind < 256 ∧ x.mark < 2 ^ 64 ∧ x.left ≤ 2 ^ 30 ∧ x.bytes.length ≤ x.left ∧ x.bytes.length ≤ s.length := by
 unfold secOf at h
 split at h
 ·cases h
 split at h
 ·cases h
 simp only at h
 split at h
 ·cases h
 ·rename_i h19 _ hc
  injection h with h
  subst h
  have h1 := num_lt (s.take 1)
  have h2 := num_lt ((s.drop 1).take 8)
  have l1 : (s.take 1).length = 1 := by rw [List.length_take]; omega
  have l2 : ((s.drop 1).take 8).length = 8 := by rw [List.length_take, List.length_drop]; omega
  rw [l1] at h1
  rw [l2] at h2
  refine ⟨by simp only; omega, by simp only; omega, by simp only; omega, ?_, ?_⟩
  ·simp only [List.length_take]; omega
  ·simp only [List.length_take, List.length_drop]; omega
theorem secOf_bytes {s : List UInt8} {x : Sec} (h : secOf s = some x) : x.bytes = (s.drop 14).take x.bytes.length := by
 unfold secOf at h
 split at h
 ·cases h
 split at h
 ·cases h
 simp only at h
 split at h
 ·cases h
 ·injection h with h
  subst h
  simp only [List.length_take]
  rw [List.take_eq_take_iff]
  simp
theorem secOf_fits {s : List UInt8} {x : Sec} (h : secOf s = some x) : 14 + x.bytes.length ≤ s.length := by
 unfold secOf at h
 split at h
 ·cases h
 split at h
 ·cases h
 simp only at h
 split at h
 ·cases h
 ·injection h with h
  subst h
  simp only [List.length_take, List.length_drop]
  omega
def GetOut (w' : World) (base : Nat) (r : Nat × RecV) (e : Ending) : Prop :=
 (r.1 = 0 ∧ ∃ v, e = .returned (.tuple #[.int .u8 r.2.kind, .int .i64 (IntKind.i64.wrap r.2.mark), v, .int .i64 r.2.many, .int .i64 0]) ∧ w'.ownsRow base 5 1 v r.2.bytes.length (r.2.bytes.map u8v)) ∨
 (r.1 ≠ 0 ∧ e = .returned (.tuple #[.int .u8 0, .int .i64 0, .slice none 0 0, .int .i64 0, .int .i64 r.1]))
abbrev hdC (x : Sec) (v : Value) : Array Value := #[.int .u8 x.kind, .int .i64 (IntKind.i64.wrap x.mark), .int .u64 x.left, .bool x.first, v]
structure GetR (w wr : World) (G : Nat) (d : DskV) (r : Nat × RecV) (a j : Nat) (acc : List UInt8) (hd : Sec) (out : Value) : Prop where
 below : Below w.heap.size w wr
 low : w.heap.size ≤ G
 head : ∃ v, Blk wr G 275 (hdC hd v)
 own : wr.ownsRow w.heap.size 5 1 out acc.length (acc.map u8v)
 go : r = getGo d a (d.lasts.length - a - j) j hd acc
 few : acc.length ≤ j * 4096
 left : 0 < j → acc.length ≤ hd.left
 m64 : hd.mark < 2 ^ 64
 l30 : hd.left ≤ 2 ^ 30
set_option maxHeartbeats 8000000 in
theorem recGet_any {w : World} {base B : Nat} {d : DskV} (h : Dsk w base B d) (hs : Steps w) (a : Nat) (ha : a < 2 ^ 62) :
  Calls Tryz.prog 118 #[.pointer (some ⟨B, 0, none⟩), .int .i64 a] w fun e w' => GetOut w' w.heap.size (getP d a) e ∧ Below w.heap.size w w' := by
 have HD := hZ9 h
 have HS := hZ9 hs
 have hsz : 16 ≤ d.size ∧ d.size ≤ 4096 := by obtain ⟨m, h⟩ := h; exact h.sz
 have hlen : d.lasts.length ≤ 65536 := by obtain ⟨m, h⟩ := h; exact h.n1.2
 obtain ⟨r, hr⟩ : ∃ r, r = getP d a := ⟨_, rfl⟩
 rw [← hr]
 clear h hs
 by_cases h1 : d.lasts.length ≤ a
 ·have hr' : r = (1, ⟨0, 0, [], 0⟩) := by rw [hr]; unfold getP; rw [if_pos h1]
  subst hr'
  clear hr
  go_enter Tryz.func118, Tryz.ntmps118
  go_wp2_with (go_at_call 55; refine (diskSize_any HD.out).mono ?_; rintro e w1 ⟨rfl, hb1⟩)
  refine bodyPost_ret (results_tmp5 rfl _ _ _) rfl ⟨.inr ⟨by decide, rfl⟩, hb1⟩
 ·have hgo : r = getGo d a (d.lasts.length - a) 0 ⟨0, 0, 0, false, []⟩ [] := by rw [hr]; unfold getP; rw [if_neg h1]
  have HGO := hZ9 hgo
  clear hgo
  go_enter Tryz.func118, Tryz.ntmps118
  go_wp2_with (go_at_call 55; refine (diskSize_any HD.out).mono ?_; rintro e w1 ⟨rfl, hb1⟩)
  go_loopw [12, 13] (fun out i wr => ∃ j acc hd, a + j ≤ d.lasts.length ∧ i = .int .i64 (j : Nat) ∧ GetR w wr w1.heap.size d r a j acc hd out) (fun _ i _ => d.lasts.length - a - (intOf i).toNat)
  case atStart =>
   exact ⟨0, [], ⟨0, 0, 0, false, []⟩, by omega, rfl, ⟨hb1.alloc hb1.size _, hb1.size, ⟨.slice none 0 0, Blk.new_eq0 rfl⟩, ⟨by simp, .inl ⟨rfl, rfl⟩⟩, HGO.out, by simp, fun h => absurd h (by omega), by simp, by simp⟩⟩
  case round =>
   obtain ⟨j, acc, hd, hj, rfl, hp⟩ := hrel
   obtain ⟨G, hG⟩ : ∃ G, G = w1.heap.size := ⟨_, rfl⟩
   rw [← hG] at hp ⊢
   clear hG hb1 hr HGO
   generalize w1 = w1' at *
   clear w1'
   have HP := hZ9 hp
   by_cases hend : a + j = d.lasts.length
   ·have hr8 : r = (8, ⟨0, 0, [], 0⟩) := by
     rw [hp.go, show d.lasts.length - a - j = 0 by omega]; rfl
    subst hr8
    clear hp
    have hend' : (a : Int) + j = d.lasts.length := by omega
    go_wp2_with fail
    exact bodyPost_ret (results_tmp5 rfl _ _ _) rfl ⟨.inr ⟨by decide, rfl⟩, HP.out.below⟩
   ·obtain ⟨k, hk⟩ : ∃ k, d.lasts.length - a - j = k + 1 := ⟨d.lasts.length - a - j - 1, by omega⟩
    have hgo := hp.go
    rw [hk] at hgo
    unfold getGo at hgo
    have hne : ¬ ((a : Int) + j = d.lasts.length) := by omega
    have hbase := hp.below.size
    have hrd := diskRead_any (HD.out.below hp.below) (a + j)
    obtain ⟨e, s, hread⟩ : ∃ e s, readD d (a + j) = (e, s) := ⟨_, _, rfl⟩
    rw [hread, Int.natCast_add] at hrd
    rw [hread] at hgo
    cases e with
    | succ e =>
     have HRD := hZ9 (hrd.mono (R' := fun e' w' => e' = .returned (.tuple #[.slice none 0 0, .int .i64 ((e + 1 : Nat) : Int)]) ∧ Below wr.heap.size wr w') (by
      rintro e' w' ⟨hro, hb⟩
      rcases hro with ⟨h0, _⟩ | ⟨_, h2⟩
      ·exact absurd h0 (by simp)
      ·exact ⟨h2, hb⟩))
     have hr' : r = (e + 1, ⟨0, 0, [], 0⟩) := hgo
     subst hr'
     have hen : (((e + 1 : Nat) : Int) != 0) = true := by simp; omega
     clear hp hgo hrd hread
     go_wp2_with (go_at_call 171; refine HRD.out.mono ?_; rintro e' w2 ⟨rfl, hb2⟩)
     exact bodyPost_ret (results_tmp5 rfl _ _ _) rfl ⟨.inr ⟨by simp, rfl⟩, HP.out.below.trans (hb2.mono hbase)⟩
    | zero =>
     have hsl := readD_len (HD.out.below hp.below) hread
     have HRD := hZ9 (hrd.mono (R' := fun e' w' => (∃ g c, e' = .returned (.tuple #[.slice (some ⟨g, 0, none⟩) s.length c, .int .i64 0]) ∧ Byt w' (some ⟨g, 0, none⟩) s ∧ s.length ≤ c) ∧ Below wr.heap.size wr w') (by
      rintro e' w' ⟨hro, hb⟩
      rcases hro with ⟨_, v, h2, g, c, h3, h4⟩ | ⟨h0, _⟩
      ·simp only at h3 h4
       subst h3
       obtain ⟨A, c1, h5, h6⟩ := own_form h4
       injection h5 with _ _ h5
       exact ⟨⟨g, c, h2, Byt.of_own h4, by omega⟩, hb⟩
      ·exact absurd rfl h0))
     simp only at hgo
     obtain ⟨p, hpd⟩ : ∃ p, p = plainB s := ⟨_, rfl⟩
     have HPL := hZ9 (show ∀ wy g c, Byt wy (some ⟨g, 0, none⟩) s → Calls Tryz.prog 172 #[.slice (some ⟨g, 0, none⟩) s.length c] wy fun e w' => e = .returned (.bool p) ∧ wy = w' from fun wy g c hy => by
      have := plain_any s (some ⟨g, 0, none⟩) c _ wy (by omega) hy.rd
      rw [← hpd] at this
      exact this)
     have HRE0 := hZ9 (show ∀ wy g c, Steps wy → Byt wy (some ⟨g, 0, none⟩) s → s.length ≤ c → Calls Tryz.prog 173 #[.slice (some ⟨g, 0, none⟩) s.length c] wy fun e w' => SecOut g (secOf s) e ∧ Below wy.heap.size wy w' from fun wy g c h1 h2 h3 => read_any h1 s g c h2 (by omega) (by omega) h3)
     obtain ⟨hv, hhb⟩ := hp.head
     have HHB := hZ9 hhb
     have HST := hZ9 (HS.out.below' hp.below)
     have hhl := hhb.lt
     have hlow := hp.low
     rw [← hpd] at hgo
     clear hhb hrd hpd hread
     have hslen : s.length ≤ 4096 := by omega
     have HSL := hZ9 hsl
     clear hsl
     cases hsec : secOf s with
     | none =>
      have HRE := hZ9 (show ∀ wy g c, Steps wy → Byt wy (some ⟨g, 0, none⟩) s → s.length ≤ c → Calls Tryz.prog 173 #[.slice (some ⟨g, 0, none⟩) s.length c] wy fun e w' => e = .returned (.tuple #[.agg #[.int .u8 0, .int .i64 0, .int .u64 0, .bool false, .slice none 0 0], .bool false]) ∧ Below wy.heap.size wy w' from fun wy g c h1 h2 h3 => by
       have := HRE0.out wy g c h1 h2 h3
       rw [hsec] at this
       exact this)
      rw [hsec] at hgo
      clear HRE0 hsec
      by_cases hj0 : j = 0
      ·have hji : ((j : Int) == 0) = true := by simp; omega
       by_cases hpt : p = true
       ·subst hpt
        rw [if_pos ⟨hj0, rfl⟩] at hgo
        subst hgo
        clear hp hj0
        go_wp2_with (first
         | (go_at_call 171; refine HRD.out.mono ?_; rintro e' w2 ⟨⟨g, c, rfl, hby, hcs⟩, hb2⟩; (have HBY := hZ9 hby); (have HB2 := hZ9 hb2); clear hby hb2)
         | (go_at_call 172; refine (HPL.out w2 g c HBY.out).mono ?_; rintro e' w' ⟨rfl, rfl⟩))
        exact bodyPost_ret (results_tmp5 rfl _ _ _) rfl ⟨.inr ⟨by decide, rfl⟩, HP.out.below.trans (HB2.out.mono hbase)⟩
       ·have hpf : p = false := by simpa using hpt
        subst hpf
        rw [if_neg (by simp)] at hgo
        subst hgo
        clear hp hj0
        have HI : Hid ((Tryz.prog.info? 275).map (·.size) = some zero5.size) := size275
        have H1 : Hid (zero5.all (·.oneCell') = true) := by show zero5.all (·.oneCell') = true; simp [zero5, Value.oneCell']
        go_wp2_with (first
         | (go_at_call 171; refine HRD.out.mono ?_; rintro e' w2 ⟨⟨g, c, rfl, hby, hcs⟩, hb2⟩; (have HBY := hZ9 hby); (have HB2 := hZ9 hb2); clear hby hb2)
         | (go_at_call 172; refine (HPL.out w2 g c HBY.out).mono ?_; rintro e' w' ⟨rfl, rfl⟩)
         | (go_at_call 173; refine (HRE.out w2 g c (HST.out.below HB2.out) HBY.out hcs).mono ?_; rintro e' w3 ⟨rfl, hb3⟩; (have HG3 := hZ9 (show Blk w3 G 275 (hdC hd hv) from (HHB.out.below HB2.out HHB.out.lt).below hb3 (Nat.lt_of_lt_of_le HHB.out.lt HB2.out.size))); (have HB3 := hZ9 (HB2.out.trans (hb3.mono HB2.out.size))); clear hb3)
         | (refine wpList_load_row rfl 275 _ rfl w3.heap.size rfl 275 zero5 (0, 0) _ (Blk.new w3 275 zero5) Tryz.underlying275 rfl HI.out ?_)
         | (refine wpList_store_row rfl 275 _ _ rfl G zero5 rfl rfl 275 (hdC hd hv) (HG3.out.alloc _) HI.out rfl H1.out ?_))
        exact bodyPost_ret (results_tmp5 rfl _ _ _) rfl ⟨.inr ⟨by decide, rfl⟩, (HP.out.below.trans ((HB3.out.alloc HB3.out.size _).mono hbase)).trans (grown_below (setRow_gby _ _ _) (by have := HB3.out.size; simp; omega) (fun k hk => by injection hk with hk; omega))⟩
      ·have hji : ((j : Int) == 0) = false := by simp; omega
       rw [if_neg (by simp [hj0])] at hgo
       subst hgo
       clear hp
       go_wp2_with (first
        | (go_at_call 171; refine HRD.out.mono ?_; rintro e' w2 ⟨⟨g, c, rfl, hby, hcs⟩, hb2⟩; (have HBY := hZ9 hby); (have HB2 := hZ9 hb2); clear hby hb2)
        | (go_at_call 172; refine (HPL.out w2 g c HBY.out).mono ?_; rintro e' w' ⟨rfl, rfl⟩)
        | (go_at_call 173; refine (HRE.out w2 g c (HST.out.below HB2.out) HBY.out hcs).mono ?_; rintro e' w3 ⟨rfl, hb3⟩; (have HG3 := hZ9 (show Blk w3 G 275 (hdC hd hv) from (HHB.out.below HB2.out HHB.out.lt).below hb3 (Nat.lt_of_lt_of_le HHB.out.lt HB2.out.size))); (have HB3 := hZ9 (HB2.out.trans (hb3.mono HB2.out.size))); clear hb3))
       exact bodyPost_ret (results_tmp5 rfl _ _ _) rfl ⟨.inr ⟨by decide, rfl⟩, HP.out.below.trans ((HB3.out.alloc HB3.out.size _).mono hbase)⟩
     | some x =>
      obtain ⟨x1, x2, x3, x4, x5⟩ := secOf_bounds hsec
      obtain ⟨xm, hxm⟩ : ∃ xm : Int, xm = IntKind.i64.wrap x.mark := ⟨_, rfl⟩
      have HRE := hZ9 (show ∀ wy g c, Steps wy → Byt wy (some ⟨g, 0, none⟩) s → s.length ≤ c → Calls Tryz.prog 173 #[.slice (some ⟨g, 0, none⟩) s.length c] wy fun e w' => (∃ c', e = .returned (.tuple #[.agg #[.int .u8 x.kind, .int .i64 xm, .int .u64 x.left, .bool x.first, .slice (some ⟨g, 14, none⟩) x.bytes.length c'], .bool true]) ∧ x.bytes.length ≤ c') ∧ Below wy.heap.size wy w' from fun wy g c h1 h2 h3 => by
       have := HRE0.out wy g c h1 h2 h3
       rw [hsec] at this
       rw [hxm]
       exact this)
      rw [hsec] at hgo
      have HSEC := hZ9 hsec
      have HXM := hZ9 hxm
      clear HRE0 hsec hxm
      by_cases hj0 : j = 0
      ·have hji : ((j : Int) == 0) = true := by simp; omega
       by_cases hpt : p = true
       ·subst hpt
        rw [if_pos ⟨hj0, rfl⟩] at hgo
        subst hgo
        clear hp hj0
        go_wp2_with (first
         | (go_at_call 171; refine HRD.out.mono ?_; rintro e' w2 ⟨⟨g, c, rfl, hby, hcs⟩, hb2⟩; (have HBY := hZ9 hby); (have HB2 := hZ9 hb2); clear hby hb2)
         | (go_at_call 172; refine (HPL.out w2 g c HBY.out).mono ?_; rintro e' w' ⟨rfl, rfl⟩))
        exact bodyPost_ret (results_tmp5 rfl _ _ _) rfl ⟨.inr ⟨by decide, rfl⟩, HP.out.below.trans (HB2.out.mono hbase)⟩
       ·have hpf : p = false := by simpa using hpt
        subst hpf
        rw [if_neg (by simp)] at hgo
        simp only at hgo
        by_cases hxf : x.first = false
        ·rw [if_pos ⟨hj0, hxf⟩] at hgo
         subst hgo
         clear hp hj0
         go_wp2_with (first
          | (go_at_call 171; refine HRD.out.mono ?_; rintro e' w2 ⟨⟨g, c, rfl, hby, hcs⟩, hb2⟩; (have HBY := hZ9 hby); (have HB2 := hZ9 hb2); clear hby hb2)
          | (go_at_call 172; refine (HPL.out w2 g c HBY.out).mono ?_; rintro e' w' ⟨rfl, rfl⟩)
          | (go_at_call 173; refine (HRE.out w2 g c (HST.out.below HB2.out) HBY.out hcs).mono ?_; rintro e' w3 ⟨⟨c', rfl, hc'⟩, hb3⟩; (have HG3 := hZ9 (show Blk w3 G 275 (hdC hd hv) from (HHB.out.below HB2.out HHB.out.lt).below hb3 (Nat.lt_of_lt_of_le HHB.out.lt HB2.out.size))); (have HBY3 := hZ9 (HBY.out.below hb3)); (have HB3 := hZ9 (HB2.out.trans (hb3.mono HB2.out.size))); clear hb3))
         exact bodyPost_ret (results_tmp5 rfl _ _ _) rfl ⟨.inr ⟨by decide, rfl⟩, HP.out.below.trans ((HB3.out.alloc HB3.out.size _).mono hbase)⟩
        ·have hxt : x.first = true := by simpa using hxf
         rw [if_neg (by simp [hxt]), if_neg (by omega)] at hgo
         simp only [if_pos hj0] at hgo
         have hji2 : decide (0 < (j : Int)) = false := by simp; omega
         have hacc : acc.length = 0 := by have := hp.few; omega
         have HJ0 := hZ9 hj0
         have HACC := hZ9 hacc
         have HGOX := hZ9 hgo
         have HI : ∀ g c', Hid ((Tryz.prog.info? 275).map (·.size) = some (#[.int .u8 x.kind, .int .i64 xm, .int .u64 x.left, .bool true, .slice (some ⟨g, 14, none⟩) x.bytes.length c'] : Array Value).size) := fun _ _ => size275
         have H1 : ∀ g c', Hid ((#[.int .u8 x.kind, .int .i64 xm, .int .u64 x.left, .bool true, .slice (some ⟨g, 14, none⟩) x.bytes.length c'] : Array Value).all (·.oneCell') = true) := fun g c' => by show (#[.int .u8 x.kind, .int .i64 xm, .int .u64 x.left, .bool true, .slice (some ⟨g, 14, none⟩) x.bytes.length c'] : Array Value).all (·.oneCell') = true; simp [Value.oneCell']
         have HRD0 := hZ9 (show Calls Tryz.prog 171 #[.pointer (some ⟨B, 0, none⟩), .int .i64 (a : Nat)] wr fun e' w' => (∃ g c, e' = .returned (.tuple #[.slice (some ⟨g, 0, none⟩) s.length c, .int .i64 0]) ∧ Byt w' (some ⟨g, 0, none⟩) s ∧ s.length ≤ c) ∧ Below wr.heap.size wr w' from by have h := HRD.out; rw [hj0, Int.natCast_zero, Int.add_zero] at h; exact h)
         subst hj0
         clear hp hxf hgo hacc HRD HJ0 hji2 hji
         generalize hRD : HRD0 = HRD
         clear hRD HRD0
         go_upto_region 21 with (first
          | (go_at_call 171; refine HRD.out.mono ?_; rintro e' w2 ⟨⟨g, c, rfl, hby, hcs⟩, hb2⟩; (have HBY := hZ9 hby); (have HB2 := hZ9 hb2); clear hby hb2)
          | (go_at_call 172; refine (HPL.out w2 g c HBY.out).mono ?_; rintro e' w' ⟨rfl, rfl⟩)
          | (go_at_call 173; refine (HRE.out w2 g c (HST.out.below HB2.out) HBY.out hcs).mono ?_; rintro e' w3 ⟨⟨c', rfl, hc'⟩, hb3⟩; (have HG3 := hZ9 (show Blk w3 G 275 (hdC hd hv) from (HHB.out.below HB2.out HHB.out.lt).below hb3 (Nat.lt_of_lt_of_le HHB.out.lt HB2.out.size))); (have HBY3 := hZ9 (HBY.out.below hb3)); (have HB3 := hZ9 (HB2.out.trans (hb3.mono HB2.out.size))); clear hb3))
         have hX4 : Blk (w3.alloc (.cells #[.int .u8 x.kind, .int .i64 xm, .int .u64 x.left, .bool true, .slice (some ⟨g, 14, none⟩) x.bytes.length c'] 275)) w3.heap.size 275 #[.int .u8 x.kind, .int .i64 xm, .int .u64 x.left, .bool true, .slice (some ⟨g, 14, none⟩) x.bytes.length c'] := Blk.new w3 275 _
         have hG4 : Blk (w3.alloc (.cells #[.int .u8 x.kind, .int .i64 xm, .int .u64 x.left, .bool true, .slice (some ⟨g, 14, none⟩) x.bytes.length c'] 275)) G 275 (hdC hd hv) := HG3.out.alloc _
         have hb4 : Below wr.heap.size wr (w3.alloc (.cells #[.int .u8 x.kind, .int .i64 xm, .int .u64 x.left, .bool true, .slice (some ⟨g, 14, none⟩) x.bytes.length c'] 275)) := HB3.out.alloc HB3.out.size _
         have hy4 : Byt (w3.alloc (.cells #[.int .u8 x.kind, .int .i64 xm, .int .u64 x.left, .bool true, .slice (some ⟨g, 14, none⟩) x.bytes.length c'] 275)) (some ⟨g, 0, none⟩) s := HBY3.out.below (bR0.alloc nR0 _)
         have hGX : G < w3.heap.size := Nat.lt_of_lt_of_le hhl HB3.out.size
         generalize w3.alloc (.cells #[.int .u8 x.kind, .int .i64 xm, .int .u64 x.left, .bool true, .slice (some ⟨g, 14, none⟩) x.bytes.length c'] 275) = w4 at *
         generalize w3.heap.size = X at *
         have HX4 := hZ9 hX4
         have HG4 := hZ9 hG4
         have HB4 := hZ9 hb4
         have HY4 := hZ9 hy4
         clear hX4 hG4 hb4 hy4
         go_upto_region 22 with (first
          | (refine wpList_load_row rfl 275 _ rfl X rfl 275 #[.int .u8 x.kind, .int .i64 xm, .int .u64 x.left, .bool true, .slice (some ⟨g, 14, none⟩) x.bytes.length c'] (0, 0) _ HX4.out Tryz.underlying275 rfl (HI g c').out ?_)
          | (refine wpList_store_row rfl 275 _ _ rfl G #[.int .u8 x.kind, .int .i64 xm, .int .u64 x.left, .bool true, .slice (some ⟨g, 14, none⟩) x.bytes.length c'] rfl rfl 275 (hdC hd hv) HG4.out (HI g c').out rfl (H1 g c').out ?_))
         have hG5 : Blk (w4.setRow G #[.int .u8 x.kind, .int .i64 xm, .int .u64 x.left, .bool true, .slice (some ⟨g, 14, none⟩) x.bytes.length c']) G 275 #[.int .u8 x.kind, .int .i64 xm, .int .u64 x.left, .bool true, .slice (some ⟨g, 14, none⟩) x.bytes.length c'] := setRow_blk HG4.out _
         have hX5 : Blk (w4.setRow G #[.int .u8 x.kind, .int .i64 xm, .int .u64 x.left, .bool true, .slice (some ⟨g, 14, none⟩) x.bytes.length c']) X 275 #[.int .u8 x.kind, .int .i64 xm, .int .u64 x.left, .bool true, .slice (some ⟨g, 14, none⟩) x.bytes.length c'] := HX4.out.grown (setRow_gby _ _ _) (by intro e; injection e with e; omega)
         have hb5 : Below w.heap.size w (w4.setRow G #[.int .u8 x.kind, .int .i64 xm, .int .u64 x.left, .bool true, .slice (some ⟨g, 14, none⟩) x.bytes.length c']) := (HP.out.below.trans (HB4.out.mono hbase)).trans (grown_below (setRow_gby _ _ _) (by have := HB4.out.size; omega) (fun k hk => by injection hk with hk; omega))
         have hk5 : Keeps w.heap.size [275] wr (w4.setRow G #[.int .u8 x.kind, .int .i64 xm, .int .u64 x.left, .bool true, .slice (some ⟨g, 14, none⟩) x.bytes.length c']) := (Keeps.of_below HB4.out hbase).trans (Keeps.of_grown (setRow_gby _ _ _) (by have := HB4.out.size; omega) (fun k hk => by injection hk with hk; subst hk; exact ⟨hlow, fun t ht => by rw [HG4.out.ty] at ht; injection ht with ht; simp [← ht]⟩))
         have HOW5 := hZ9 (own_keeps HP.out.own hk5 (by decide))
         have hy5 : Byt (w4.setRow G #[.int .u8 x.kind, .int .i64 xm, .int .u64 x.left, .bool true, .slice (some ⟨g, 14, none⟩) x.bytes.length c']) (some ⟨g, 0, none⟩) s := HY4.out.keeps (base := w.heap.size) (ts := [275]) (Keeps.of_grown (setRow_gby _ _ _) (by have := HB4.out.size; omega) (fun k hk => by injection hk with hk; subst hk; exact ⟨hlow, fun t ht => by rw [HG4.out.ty] at ht; injection ht with ht; simp [← ht]⟩)) (by decide)
         generalize w4.setRow G #[.int .u8 x.kind, .int .i64 xm, .int .u64 x.left, .bool true, .slice (some ⟨g, 14, none⟩) x.bytes.length c'] = w5 at *
         have HG5 := hZ9 hG5
         have HX5 := hZ9 hX5
         have HB5 := hZ9 hb5
         have hxb : x.bytes = (s.drop 14).take x.bytes.length := secOf_bytes HSEC.out
         have hrx := (hy5.sub (i := 14) (k := x.bytes.length) (secOf_fits HSEC.out)).rd
         rw [Nat.zero_add, ← hxb] at hrx
         have HRX5 := hZ9 hrx
         have HFEW := hZ9 HP.out.few
         have hfew : acc.length ≤ 268435456 := by have := HP.out.few; omega
         clear hG5 hX5 hb5 hk5 hy5 hrx hxb
         have hxc : x.bytes.length ≤ x.left := x4
         have hxs : x.bytes.length ≤ 4096 := by omega
         have c4 : w5.cell? ⟨X, 4, none⟩ = some (.slice (some ⟨g, 14, none⟩) x.bytes.length c') := HX5.out.cell 4
         have hXl := HX5.out.lt
         obtain ⟨i5, hi5, hz0, hz1, hz2⟩ := info_parts info5
         go_upto_region 24 with fail
         go_upto_region 25 with (at_builtin; refine wpList_append_rd _ rfl _ _ 43 rfl w.heap.size 5 i5 _ 1 1 under43 hi5 hz0 hz1 hz2 rfl (by decide) u12 acc.length (acc.map u8v) rfl HOW5.out (some ⟨g, 14, none⟩) x.bytes.length c' _ (x.bytes.map u8v) rfl HRX5.out (u8v_one _) (by unfold maxLen; omega) (by omega) HB5.out.size ?_; intro A9 c9 w9 hown9 hgrow9 hnc9 _; (have HOW9 := hZ9 hown9); (have HGR9 := hZ9 hgrow9); clear hown9 hgrow9)
         have hG9 := HG5.out.grown HGR9.out (own_ne HOW5.out HG5.out (by decide))
         have hb9 : Below w.heap.size w w9 := HB5.out.trans (grown_below HGR9.out HB5.out.size (fun k hk => (HOW5.out.lt k hk).1))
         have g0 : w9.cell? ⟨G, 0, none⟩ = some (.int .u8 x.kind) := hG9.cell 0
         have g1 : w9.cell? ⟨G, 1, none⟩ = some (.int .i64 xm) := hG9.cell 1
         have g2 : w9.cell? ⟨G, 2, none⟩ = some (.int .u64 x.left) := hG9.cell 2
         have hGl := hG9.lt
         have HG9 := hZ9 hG9
         have HB9 := hZ9 hb9
         clear hG9 hb9 c4
         have hsum : (acc ++ x.bytes).length = acc.length + x.bytes.length := List.length_append
         have HOUT9 := hZ9 (show w9.ownsRow w.heap.size 5 1 (.slice A9 (acc.length + x.bytes.length) c9) (acc ++ x.bytes).length ((acc ++ x.bytes).map u8v) from by rw [hsum, List.map_append]; exact HOW9.out)
         by_cases hq : acc.length + x.bytes.length = x.left
         ·have hr9 : r = (0, ⟨x.kind, x.mark, acc ++ x.bytes, 0 + 1⟩) := by rw [HGOX.out, if_pos (by rw [hsum]; exact hq)]
          subst hr9
          have hqi : (((acc.length + x.bytes.length : Nat) : Int) == (x.left : Nat)) = true := by simp; omega
          have hqi2 : ((acc.length : Int) + (x.bytes.length : Int) == (x.left : Nat)) = true := by simp; omega
          clear hsum hq
          go_upto_region 26 with fail
          go_quiet (fail)
          go_wp2_with fail
          refine bodyPost_ret (results_tmp5 rfl _ _ _) rfl ⟨.inl ⟨rfl, .slice A9 (acc.length + x.bytes.length) c9, ?_, HOUT9.out⟩, bl_drewN HB9.out _⟩
          rw [← HXM.out]
          rfl
         ·have hr9 : r = getGo d a k (0 + 1) x (acc ++ x.bytes) := by rw [HGOX.out, if_neg (by rw [hsum]; exact hq)]
          have HR9 := hZ9 hr9
          have hqi : (((acc.length + x.bytes.length : Nat) : Int) == (x.left : Nat)) = false := by simp; omega
          have hqi2 : ((acc.length : Int) + (x.bytes.length : Int) == (x.left : Nat)) = false := by simp; omega
          have HQ := hZ9 hq
          have HSUM := hZ9 hsum
          clear hsum hr9 hq
          go_wp2_with fail
          go_roundw
          case rel =>
           refine ⟨0 + 1, acc ++ x.bytes, x, by omega, by go_num, HB9.out, hlow, ⟨_, by have := HG9.out; rw [HXM.out, ← hxt] at this; exact this⟩, ?_, ?_, ?_, ?_, ?_, ?_⟩
           ·exact HOUT9.out
           ·rw [HR9.out]; congr 1; omega
           ·rw [HSUM.out]; have := HFEW.out; omega
           ·intro _; rw [HSUM.out]; have := HACC.out; omega
           ·exact x2
           ·exact x3
          case measure => simp [intOf]; omega
      ·have hji : ((j : Int) == 0) = false := by simp; omega
       have hjp : (0 : Int) < j := by omega
       rw [if_neg (by simp [hj0])] at hgo
       simp only at hgo
       rw [if_neg (by simp [hj0])] at hgo
       simp only [if_neg hj0] at hgo
       obtain ⟨A0, c0, rfl, hc0⟩ := own_form hp.own
       obtain ⟨hm, hhm⟩ : ∃ hm : Int, hm = IntKind.i64.wrap hd.mark := ⟨_, rfl⟩
       have HHM := hZ9 hhm
       have hmm : xm = hm ↔ x.mark = hd.mark := by
        rw [HXM.out, hhm, IntKind.wrap_i64, IntKind.wrap_i64]
        have := hp.m64
        omega
       have hle0 := hp.left (by omega)
       have hle1 : (acc.length : Int) ≤ hd.left := by omega
       have hl30 := hp.l30
       clear hhm
       by_cases b1 : x.first = true
       ·rw [if_pos ⟨by omega, .inl b1⟩] at hgo
        subst hgo
        clear hp
        go_upto_region 18 with (first
         | (go_at_call 171; refine HRD.out.mono ?_; rintro e' w2 ⟨⟨g, c, rfl, hby, hcs⟩, hb2⟩; (have HBY := hZ9 hby); (have HB2 := hZ9 hb2); clear hby hb2)
         | (go_at_call 173; refine (HRE.out w2 g c (HST.out.below HB2.out) HBY.out hcs).mono ?_; rintro e' w3 ⟨⟨c', rfl, hc'⟩, hb3⟩; (have HG3 := hZ9 (show Blk w3 G 275 (hdC hd hv) from (HHB.out.below HB2.out HHB.out.lt).below hb3 (Nat.lt_of_lt_of_le HHB.out.lt HB2.out.size))); (have HBY3 := hZ9 (HBY.out.below hb3)); (have HB3 := hZ9 (HB2.out.trans (hb3.mono HB2.out.size))); clear hb3))
        have hX4 : Blk (w3.alloc (.cells #[.int .u8 x.kind, .int .i64 xm, .int .u64 x.left, .bool true, .slice (some ⟨g, 14, none⟩) x.bytes.length c'] 275)) w3.heap.size 275 #[.int .u8 x.kind, .int .i64 xm, .int .u64 x.left, .bool true, .slice (some ⟨g, 14, none⟩) x.bytes.length c'] := Blk.new w3 275 _
        have hG4 : Blk (w3.alloc (.cells #[.int .u8 x.kind, .int .i64 xm, .int .u64 x.left, .bool true, .slice (some ⟨g, 14, none⟩) x.bytes.length c'] 275)) G 275 (hdC hd hv) := HG3.out.alloc _
        have hb4 : Below wr.heap.size wr (w3.alloc (.cells #[.int .u8 x.kind, .int .i64 xm, .int .u64 x.left, .bool true, .slice (some ⟨g, 14, none⟩) x.bytes.length c'] 275)) := HB3.out.alloc HB3.out.size _
        have hy4 : Byt (w3.alloc (.cells #[.int .u8 x.kind, .int .i64 xm, .int .u64 x.left, .bool true, .slice (some ⟨g, 14, none⟩) x.bytes.length c'] 275)) (some ⟨g, 0, none⟩) s := HBY3.out.below (bR0.alloc nR0 _)
        have hGX : G < w3.heap.size := Nat.lt_of_lt_of_le hhl HB3.out.size
        generalize w3.alloc (.cells #[.int .u8 x.kind, .int .i64 xm, .int .u64 x.left, .bool true, .slice (some ⟨g, 14, none⟩) x.bytes.length c'] 275) = w5 at *
        generalize w3.heap.size = X at *
        have HX4 := hZ9 hX4
        have HG4 := hZ9 hG4
        have HB4 := hZ9 hb4
        have HY4 := hZ9 hy4
        clear hX4 hG4 hb4 hy4
        have hX5c := HX4.out
        have hG5c := HG4.out
        have x0 : w5.cell? ⟨X, 0, none⟩ = some (.int .u8 x.kind) := hX5c.cell 0
        have x1' : w5.cell? ⟨X, 1, none⟩ = some (.int .i64 xm) := hX5c.cell 1
        have x2' : w5.cell? ⟨X, 2, none⟩ = some (.int .u64 x.left) := hX5c.cell 2
        have x3' : w5.cell? ⟨X, 3, none⟩ = some (.bool true) := hX5c.cell 3
        have y0 : w5.cell? ⟨G, 0, none⟩ = some (.int .u8 hd.kind) := hG5c.cell 0
        have y1 : w5.cell? ⟨G, 1, none⟩ = some (.int .i64 hm) := by rw [HHM.out]; exact hG5c.cell 1
        have y2 : w5.cell? ⟨G, 2, none⟩ = some (.int .u64 hd.left) := hG5c.cell 2
        have hXl0 := hX5c.lt
        have hGl0 := hG5c.lt
        clear hX5c hG5c
        go_wp2_with fail
        exact bodyPost_ret (results_tmp5 rfl _ _ _) rfl ⟨.inr ⟨by decide, rfl⟩, HP.out.below.trans (HB4.out.mono hbase)⟩
       ·have b1f : x.first = false := by simpa using b1
        by_cases b2 : x.kind = hd.kind
        ·have e2 : ((x.kind : Int) != (hd.kind : Int)) = false := by simp; omega
         by_cases b3 : x.mark = hd.mark
         ·have e3 : (xm != hm) = false := by simp; exact hmm.2 b3
          by_cases b4 : x.left + acc.length = hd.left
          ·have e4 : ((x.left : Int) != (hd.left : Int) - (acc.length : Int)) = false := by simp; omega
           rw [if_neg (by simp [b1f, b2, b3, b4])] at hgo
           have HGOX := hZ9 hgo
           have HLE := hZ9 b4
           clear hp hgo b1 b2 b3 b4 hmm
           go_upto_region 18 with (first
            | (go_at_call 171; refine HRD.out.mono ?_; rintro e' w2 ⟨⟨g, c, rfl, hby, hcs⟩, hb2⟩; (have HBY := hZ9 hby); (have HB2 := hZ9 hb2); clear hby hb2)
            | (go_at_call 173; refine (HRE.out w2 g c (HST.out.below HB2.out) HBY.out hcs).mono ?_; rintro e' w3 ⟨⟨c', rfl, hc'⟩, hb3⟩; (have HG3 := hZ9 (show Blk w3 G 275 (hdC hd hv) from (HHB.out.below HB2.out HHB.out.lt).below hb3 (Nat.lt_of_lt_of_le HHB.out.lt HB2.out.size))); (have HBY3 := hZ9 (HBY.out.below hb3)); (have HB3 := hZ9 (HB2.out.trans (hb3.mono HB2.out.size))); clear hb3))
           have hX4 : Blk (w3.alloc (.cells #[.int .u8 x.kind, .int .i64 xm, .int .u64 x.left, .bool false, .slice (some ⟨g, 14, none⟩) x.bytes.length c'] 275)) w3.heap.size 275 #[.int .u8 x.kind, .int .i64 xm, .int .u64 x.left, .bool false, .slice (some ⟨g, 14, none⟩) x.bytes.length c'] := Blk.new w3 275 _
           have hG4 : Blk (w3.alloc (.cells #[.int .u8 x.kind, .int .i64 xm, .int .u64 x.left, .bool false, .slice (some ⟨g, 14, none⟩) x.bytes.length c'] 275)) G 275 (hdC hd hv) := HG3.out.alloc _
           have hb4 : Below wr.heap.size wr (w3.alloc (.cells #[.int .u8 x.kind, .int .i64 xm, .int .u64 x.left, .bool false, .slice (some ⟨g, 14, none⟩) x.bytes.length c'] 275)) := HB3.out.alloc HB3.out.size _
           have hy4 : Byt (w3.alloc (.cells #[.int .u8 x.kind, .int .i64 xm, .int .u64 x.left, .bool false, .slice (some ⟨g, 14, none⟩) x.bytes.length c'] 275)) (some ⟨g, 0, none⟩) s := HBY3.out.below (bR0.alloc nR0 _)
           have hGX : G < w3.heap.size := Nat.lt_of_lt_of_le hhl HB3.out.size
           generalize w3.alloc (.cells #[.int .u8 x.kind, .int .i64 xm, .int .u64 x.left, .bool false, .slice (some ⟨g, 14, none⟩) x.bytes.length c'] 275) = w5 at *
           generalize w3.heap.size = X at *
           have HX4 := hZ9 hX4
           have HG4 := hZ9 hG4
           have HB4 := hZ9 hb4
           have HY4 := hZ9 hy4
           clear hX4 hG4 hb4 hy4
           have hX5c := HX4.out
           have hG5c := HG4.out
           have x0 : w5.cell? ⟨X, 0, none⟩ = some (.int .u8 x.kind) := hX5c.cell 0
           have x1' : w5.cell? ⟨X, 1, none⟩ = some (.int .i64 xm) := hX5c.cell 1
           have x2' : w5.cell? ⟨X, 2, none⟩ = some (.int .u64 x.left) := hX5c.cell 2
           have x3' : w5.cell? ⟨X, 3, none⟩ = some (.bool false) := hX5c.cell 3
           have y0 : w5.cell? ⟨G, 0, none⟩ = some (.int .u8 hd.kind) := hG5c.cell 0
           have y1 : w5.cell? ⟨G, 1, none⟩ = some (.int .i64 hm) := by rw [HHM.out]; exact hG5c.cell 1
           have y2 : w5.cell? ⟨G, 2, none⟩ = some (.int .u64 hd.left) := hG5c.cell 2
           have hXl0 := hX5c.lt
           have hGl0 := hG5c.lt
           clear hX5c hG5c
           go_upto_region 24 with fail
           have HG5 := HG4
           have HX5 := HX4
           have HB5 := hZ9 (HP.out.below.trans (HB4.out.mono hbase))
           have HOW5 := hZ9 (own_keeps HP.out.own (Keeps.of_below (base := w.heap.size) (ts := []) HB4.out hbase) (by simp))
           have hxb : x.bytes = (s.drop 14).take x.bytes.length := secOf_bytes HSEC.out
           have hrx := (HY4.out.sub (i := 14) (k := x.bytes.length) (secOf_fits HSEC.out)).rd
           rw [Nat.zero_add, ← hxb] at hrx
           have HRX5 := hZ9 hrx
           have HFEW := hZ9 HP.out.few
           have hfew : acc.length ≤ 268435456 := by have := HP.out.few; omega
           clear hrx hxb x0 x1' x2' x3' y0 y1 y2
           have hxc : x.bytes.length ≤ x.left := x4
           have hxs : x.bytes.length ≤ 4096 := by omega
           have c4 : w5.cell? ⟨X, 4, none⟩ = some (.slice (some ⟨g, 14, none⟩) x.bytes.length c') := HX5.out.cell 4
           have hXl := HX5.out.lt
           obtain ⟨i5, hi5, hz0, hz1, hz2⟩ := info_parts info5
           go_upto_region 25 with (at_builtin; refine wpList_append_rd _ rfl _ _ 43 rfl w.heap.size 5 i5 _ 1 1 under43 hi5 hz0 hz1 hz2 rfl (by decide) (.slice A0 acc.length c0) acc.length (acc.map u8v) rfl HOW5.out (some ⟨g, 14, none⟩) x.bytes.length c' _ (x.bytes.map u8v) rfl HRX5.out (u8v_one _) (by unfold maxLen; omega) (by omega) HB5.out.size ?_; intro A9 c9 w9 hown9 hgrow9 hnc9 _; (have HOW9 := hZ9 hown9); (have HGR9 := hZ9 hgrow9); clear hown9 hgrow9)
           have hG9 := HG5.out.grown HGR9.out (own_ne HOW5.out HG5.out (by decide))
           have hb9 : Below w.heap.size w w9 := HB5.out.trans (grown_below HGR9.out HB5.out.size (fun k hk => (HOW5.out.lt k hk).1))
           have g0 : w9.cell? ⟨G, 0, none⟩ = some (.int .u8 hd.kind) := hG9.cell 0
           have g1 : w9.cell? ⟨G, 1, none⟩ = some (.int .i64 hm) := by rw [HHM.out]; exact hG9.cell 1
           have g2 : w9.cell? ⟨G, 2, none⟩ = some (.int .u64 hd.left) := hG9.cell 2
           have hGl := hG9.lt
           have HG9 := hZ9 hG9
           have HB9 := hZ9 hb9
           clear hG9 hb9 c4
           have hsum : (acc ++ x.bytes).length = acc.length + x.bytes.length := List.length_append
           have HOUT9 := hZ9 (show w9.ownsRow w.heap.size 5 1 (.slice A9 (acc.length + x.bytes.length) c9) (acc ++ x.bytes).length ((acc ++ x.bytes).map u8v) from by rw [hsum, List.map_append]; exact HOW9.out)
           by_cases hq : acc.length + x.bytes.length = hd.left
           ·have hr9 : r = (0, ⟨hd.kind, hd.mark, acc ++ x.bytes, j + 1⟩) := by rw [HGOX.out, if_pos (by rw [hsum]; exact hq)]
            subst hr9
            have hqi : (((acc.length + x.bytes.length : Nat) : Int) == (hd.left : Nat)) = true := by simp; omega
            have hqi2 : ((acc.length : Int) + (x.bytes.length : Int) == (hd.left : Nat)) = true := by simp; omega
            clear hsum hq
            go_upto_region 26 with fail
            go_quiet (fail)
            go_wp2_with fail
            refine bodyPost_ret (results_tmp5 rfl _ _ _) rfl ⟨.inl ⟨rfl, .slice A9 (acc.length + x.bytes.length) c9, ?_, HOUT9.out⟩, bl_drewN HB9.out _⟩
            rw [← HHM.out]
            rfl
           ·have hr9 : r = getGo d a k (j + 1) hd (acc ++ x.bytes) := by rw [HGOX.out, if_neg (by rw [hsum]; exact hq)]
            have HR9 := hZ9 hr9
            have hqi : (((acc.length + x.bytes.length : Nat) : Int) == (hd.left : Nat)) = false := by simp; omega
            have hqi2 : ((acc.length : Int) + (x.bytes.length : Int) == (hd.left : Nat)) = false := by simp; omega
            have HQ := hZ9 hq
            have HSUM := hZ9 hsum
            clear hsum hr9 hq
            go_wp2_with fail
            go_roundw
            case rel =>
             refine ⟨j + 1, acc ++ x.bytes, hd, by omega, by go_num, HB9.out, hlow, ⟨_, HG9.out⟩, ?_, ?_, ?_, ?_, ?_, ?_⟩
             ·exact HOUT9.out
             ·rw [HR9.out]; congr 1; omega
             ·rw [HSUM.out]; have := HFEW.out; omega
             ·intro _; rw [HSUM.out]; have := HLE.out; omega
             ·exact HP.out.m64
             ·exact HP.out.l30
            case measure => simp [intOf]; omega
          ·have e4 : ((x.left : Int) != (hd.left : Int) - (acc.length : Int)) = true := by simp; omega
           rw [if_pos ⟨by omega, .inr (.inr (.inr b4))⟩] at hgo
           subst hgo
           clear hp b1 b2 b3 b4 hmm
           go_upto_region 18 with (first
            | (go_at_call 171; refine HRD.out.mono ?_; rintro e' w2 ⟨⟨g, c, rfl, hby, hcs⟩, hb2⟩; (have HBY := hZ9 hby); (have HB2 := hZ9 hb2); clear hby hb2)
            | (go_at_call 173; refine (HRE.out w2 g c (HST.out.below HB2.out) HBY.out hcs).mono ?_; rintro e' w3 ⟨⟨c', rfl, hc'⟩, hb3⟩; (have HG3 := hZ9 (show Blk w3 G 275 (hdC hd hv) from (HHB.out.below HB2.out HHB.out.lt).below hb3 (Nat.lt_of_lt_of_le HHB.out.lt HB2.out.size))); (have HBY3 := hZ9 (HBY.out.below hb3)); (have HB3 := hZ9 (HB2.out.trans (hb3.mono HB2.out.size))); clear hb3))
           have hX4 : Blk (w3.alloc (.cells #[.int .u8 x.kind, .int .i64 xm, .int .u64 x.left, .bool false, .slice (some ⟨g, 14, none⟩) x.bytes.length c'] 275)) w3.heap.size 275 #[.int .u8 x.kind, .int .i64 xm, .int .u64 x.left, .bool false, .slice (some ⟨g, 14, none⟩) x.bytes.length c'] := Blk.new w3 275 _
           have hG4 : Blk (w3.alloc (.cells #[.int .u8 x.kind, .int .i64 xm, .int .u64 x.left, .bool false, .slice (some ⟨g, 14, none⟩) x.bytes.length c'] 275)) G 275 (hdC hd hv) := HG3.out.alloc _
           have hb4 : Below wr.heap.size wr (w3.alloc (.cells #[.int .u8 x.kind, .int .i64 xm, .int .u64 x.left, .bool false, .slice (some ⟨g, 14, none⟩) x.bytes.length c'] 275)) := HB3.out.alloc HB3.out.size _
           have hy4 : Byt (w3.alloc (.cells #[.int .u8 x.kind, .int .i64 xm, .int .u64 x.left, .bool false, .slice (some ⟨g, 14, none⟩) x.bytes.length c'] 275)) (some ⟨g, 0, none⟩) s := HBY3.out.below (bR0.alloc nR0 _)
           have hGX : G < w3.heap.size := Nat.lt_of_lt_of_le hhl HB3.out.size
           generalize w3.alloc (.cells #[.int .u8 x.kind, .int .i64 xm, .int .u64 x.left, .bool false, .slice (some ⟨g, 14, none⟩) x.bytes.length c'] 275) = w5 at *
           generalize w3.heap.size = X at *
           have HX4 := hZ9 hX4
           have HG4 := hZ9 hG4
           have HB4 := hZ9 hb4
           have HY4 := hZ9 hy4
           clear hX4 hG4 hb4 hy4
           have hX5c := HX4.out
           have hG5c := HG4.out
           have x0 : w5.cell? ⟨X, 0, none⟩ = some (.int .u8 x.kind) := hX5c.cell 0
           have x1' : w5.cell? ⟨X, 1, none⟩ = some (.int .i64 xm) := hX5c.cell 1
           have x2' : w5.cell? ⟨X, 2, none⟩ = some (.int .u64 x.left) := hX5c.cell 2
           have x3' : w5.cell? ⟨X, 3, none⟩ = some (.bool false) := hX5c.cell 3
           have y0 : w5.cell? ⟨G, 0, none⟩ = some (.int .u8 hd.kind) := hG5c.cell 0
           have y1 : w5.cell? ⟨G, 1, none⟩ = some (.int .i64 hm) := by rw [HHM.out]; exact hG5c.cell 1
           have y2 : w5.cell? ⟨G, 2, none⟩ = some (.int .u64 hd.left) := hG5c.cell 2
           have hXl0 := hX5c.lt
           have hGl0 := hG5c.lt
           clear hX5c hG5c
           go_wp2_with fail
           exact bodyPost_ret (results_tmp5 rfl _ _ _) rfl ⟨.inr ⟨by decide, rfl⟩, HP.out.below.trans (HB4.out.mono hbase)⟩
         ·have e3 : (xm != hm) = true := by simp; exact fun h => b3 (hmm.1 h)
          rw [if_pos ⟨by omega, .inr (.inr (.inl b3))⟩] at hgo
          subst hgo
          clear hp b1 b2 b3 hmm
          go_upto_region 18 with (first
           | (go_at_call 171; refine HRD.out.mono ?_; rintro e' w2 ⟨⟨g, c, rfl, hby, hcs⟩, hb2⟩; (have HBY := hZ9 hby); (have HB2 := hZ9 hb2); clear hby hb2)
           | (go_at_call 173; refine (HRE.out w2 g c (HST.out.below HB2.out) HBY.out hcs).mono ?_; rintro e' w3 ⟨⟨c', rfl, hc'⟩, hb3⟩; (have HG3 := hZ9 (show Blk w3 G 275 (hdC hd hv) from (HHB.out.below HB2.out HHB.out.lt).below hb3 (Nat.lt_of_lt_of_le HHB.out.lt HB2.out.size))); (have HBY3 := hZ9 (HBY.out.below hb3)); (have HB3 := hZ9 (HB2.out.trans (hb3.mono HB2.out.size))); clear hb3))
          have hX4 : Blk (w3.alloc (.cells #[.int .u8 x.kind, .int .i64 xm, .int .u64 x.left, .bool false, .slice (some ⟨g, 14, none⟩) x.bytes.length c'] 275)) w3.heap.size 275 #[.int .u8 x.kind, .int .i64 xm, .int .u64 x.left, .bool false, .slice (some ⟨g, 14, none⟩) x.bytes.length c'] := Blk.new w3 275 _
          have hG4 : Blk (w3.alloc (.cells #[.int .u8 x.kind, .int .i64 xm, .int .u64 x.left, .bool false, .slice (some ⟨g, 14, none⟩) x.bytes.length c'] 275)) G 275 (hdC hd hv) := HG3.out.alloc _
          have hb4 : Below wr.heap.size wr (w3.alloc (.cells #[.int .u8 x.kind, .int .i64 xm, .int .u64 x.left, .bool false, .slice (some ⟨g, 14, none⟩) x.bytes.length c'] 275)) := HB3.out.alloc HB3.out.size _
          have hy4 : Byt (w3.alloc (.cells #[.int .u8 x.kind, .int .i64 xm, .int .u64 x.left, .bool false, .slice (some ⟨g, 14, none⟩) x.bytes.length c'] 275)) (some ⟨g, 0, none⟩) s := HBY3.out.below (bR0.alloc nR0 _)
          have hGX : G < w3.heap.size := Nat.lt_of_lt_of_le hhl HB3.out.size
          generalize w3.alloc (.cells #[.int .u8 x.kind, .int .i64 xm, .int .u64 x.left, .bool false, .slice (some ⟨g, 14, none⟩) x.bytes.length c'] 275) = w5 at *
          generalize w3.heap.size = X at *
          have HX4 := hZ9 hX4
          have HG4 := hZ9 hG4
          have HB4 := hZ9 hb4
          have HY4 := hZ9 hy4
          clear hX4 hG4 hb4 hy4
          have hX5c := HX4.out
          have hG5c := HG4.out
          have x0 : w5.cell? ⟨X, 0, none⟩ = some (.int .u8 x.kind) := hX5c.cell 0
          have x1' : w5.cell? ⟨X, 1, none⟩ = some (.int .i64 xm) := hX5c.cell 1
          have x2' : w5.cell? ⟨X, 2, none⟩ = some (.int .u64 x.left) := hX5c.cell 2
          have x3' : w5.cell? ⟨X, 3, none⟩ = some (.bool false) := hX5c.cell 3
          have y0 : w5.cell? ⟨G, 0, none⟩ = some (.int .u8 hd.kind) := hG5c.cell 0
          have y1 : w5.cell? ⟨G, 1, none⟩ = some (.int .i64 hm) := by rw [HHM.out]; exact hG5c.cell 1
          have y2 : w5.cell? ⟨G, 2, none⟩ = some (.int .u64 hd.left) := hG5c.cell 2
          have hXl0 := hX5c.lt
          have hGl0 := hG5c.lt
          clear hX5c hG5c
          go_wp2_with fail
          exact bodyPost_ret (results_tmp5 rfl _ _ _) rfl ⟨.inr ⟨by decide, rfl⟩, HP.out.below.trans (HB4.out.mono hbase)⟩
        ·have e2 : ((x.kind : Int) != (hd.kind : Int)) = true := by simp; omega
         rw [if_pos ⟨by omega, .inr (.inl b2)⟩] at hgo
         subst hgo
         clear hp b1 b2 hmm
         go_upto_region 18 with (first
          | (go_at_call 171; refine HRD.out.mono ?_; rintro e' w2 ⟨⟨g, c, rfl, hby, hcs⟩, hb2⟩; (have HBY := hZ9 hby); (have HB2 := hZ9 hb2); clear hby hb2)
          | (go_at_call 173; refine (HRE.out w2 g c (HST.out.below HB2.out) HBY.out hcs).mono ?_; rintro e' w3 ⟨⟨c', rfl, hc'⟩, hb3⟩; (have HG3 := hZ9 (show Blk w3 G 275 (hdC hd hv) from (HHB.out.below HB2.out HHB.out.lt).below hb3 (Nat.lt_of_lt_of_le HHB.out.lt HB2.out.size))); (have HBY3 := hZ9 (HBY.out.below hb3)); (have HB3 := hZ9 (HB2.out.trans (hb3.mono HB2.out.size))); clear hb3))
         have hX4 : Blk (w3.alloc (.cells #[.int .u8 x.kind, .int .i64 xm, .int .u64 x.left, .bool false, .slice (some ⟨g, 14, none⟩) x.bytes.length c'] 275)) w3.heap.size 275 #[.int .u8 x.kind, .int .i64 xm, .int .u64 x.left, .bool false, .slice (some ⟨g, 14, none⟩) x.bytes.length c'] := Blk.new w3 275 _
         have hG4 : Blk (w3.alloc (.cells #[.int .u8 x.kind, .int .i64 xm, .int .u64 x.left, .bool false, .slice (some ⟨g, 14, none⟩) x.bytes.length c'] 275)) G 275 (hdC hd hv) := HG3.out.alloc _
         have hb4 : Below wr.heap.size wr (w3.alloc (.cells #[.int .u8 x.kind, .int .i64 xm, .int .u64 x.left, .bool false, .slice (some ⟨g, 14, none⟩) x.bytes.length c'] 275)) := HB3.out.alloc HB3.out.size _
         have hy4 : Byt (w3.alloc (.cells #[.int .u8 x.kind, .int .i64 xm, .int .u64 x.left, .bool false, .slice (some ⟨g, 14, none⟩) x.bytes.length c'] 275)) (some ⟨g, 0, none⟩) s := HBY3.out.below (bR0.alloc nR0 _)
         have hGX : G < w3.heap.size := Nat.lt_of_lt_of_le hhl HB3.out.size
         generalize w3.alloc (.cells #[.int .u8 x.kind, .int .i64 xm, .int .u64 x.left, .bool false, .slice (some ⟨g, 14, none⟩) x.bytes.length c'] 275) = w5 at *
         generalize w3.heap.size = X at *
         have HX4 := hZ9 hX4
         have HG4 := hZ9 hG4
         have HB4 := hZ9 hb4
         have HY4 := hZ9 hy4
         clear hX4 hG4 hb4 hy4
         have hX5c := HX4.out
         have hG5c := HG4.out
         have x0 : w5.cell? ⟨X, 0, none⟩ = some (.int .u8 x.kind) := hX5c.cell 0
         have x1' : w5.cell? ⟨X, 1, none⟩ = some (.int .i64 xm) := hX5c.cell 1
         have x2' : w5.cell? ⟨X, 2, none⟩ = some (.int .u64 x.left) := hX5c.cell 2
         have x3' : w5.cell? ⟨X, 3, none⟩ = some (.bool false) := hX5c.cell 3
         have y0 : w5.cell? ⟨G, 0, none⟩ = some (.int .u8 hd.kind) := hG5c.cell 0
         have y1 : w5.cell? ⟨G, 1, none⟩ = some (.int .i64 hm) := by rw [HHM.out]; exact hG5c.cell 1
         have y2 : w5.cell? ⟨G, 2, none⟩ = some (.int .u64 hd.left) := hG5c.cell 2
         have hXl0 := hX5c.lt
         have hGl0 := hG5c.lt
         clear hX5c hG5c
         go_wp2_with fail
         exact bodyPost_ret (results_tmp5 rfl _ _ _) rfl ⟨.inr ⟨by decide, rfl⟩, HP.out.below.trans (HB4.out.mono hbase)⟩
end Go.Proofs.YtmgmfnimaafkdaaGreatDoor
