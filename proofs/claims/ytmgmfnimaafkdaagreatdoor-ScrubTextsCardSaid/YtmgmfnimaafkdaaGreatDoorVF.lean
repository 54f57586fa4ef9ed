/- The disk behind a power failure of which nothing is kept; plain.  The disk: Cut, of which nothing is kept.  Slices that are read, in blocks of a kind; bytes within bytes.  -/
import Derived.Test.YtmgmfnimaafkdaaGreatDoorVE
namespace Go.Proofs.YtmgmfnimaafkdaaGreatDoor
open Go.RowKit Go.Maps
set_option maxRecDepth 100000

theorem cutGo_nil : ∀ (ws : List (Nat × SecV)) (i : Nat) (l : List SecV), cutGo [] (-1) i ws l = l
  | [], _, _ => rfl
  | w :: r, i, l => by
    unfold cutGo
    rw [if_neg (by omega), if_neg (by simp), cutGo_nil r]
def lostV (d : DskV) : DskV := { d with waits := [], off := true }
theorem cut_nil {d : DskV} (h : d.off = false) : cutD d [] (-1) = lostV d := by
  unfold cutD lostV; rw [cutGo_nil, h]; rfl
def DskM.lost (m : DskM) : DskM := { m with wi := [], A := none, c := 0 }
theorem DskM.told_lost (m : DskM) (k : Nat) : m.lost.told k = m.last k := rfl
theorem DskM.told_last (m : DskM) (k : Nat) (h : k ∉ m.wi.map (·.1)) : m.told k = m.last k := by
  unfold DskM.told
  have : m.wi.reverse.find? (fun x => x.1 == k) = none := by
    rw [List.find?_eq_none]
    intro x hx hk
    rw [List.mem_reverse] at hx
    exact h (List.mem_map.2 ⟨x, hx, by simpa using hk⟩)
  rw [this]
/-- what is told when j of the waiting writes are taken back -/
def DskM.back (m : DskM) (j k : Nat) : Option Nat := if k ∈ (m.wi.take j).map (·.1) then m.last k else m.told k
def cutRow (m : DskM) (n j : Nat) : Array Value := ((List.range n).map fun k => ptrV (m.back j k)).toArray
theorem cutRow_zero (m : DskM) (n : Nat) : cutRow m n 0 = ((List.range n).map fun k => ptrV (m.told k)).toArray := by
  unfold cutRow DskM.back; simp
theorem cutRow_all (m : DskM) (n : Nat) : cutRow m n m.wi.length = ((List.range n).map fun k => ptrV (m.lost.told k)).toArray := by
  unfold cutRow
  congr 1
  refine List.map_congr_left fun k _ => ?_
  unfold DskM.back
  rw [List.take_length, DskM.told_lost]
  split
  · rfl
  · rename_i h; rw [m.told_last k h]
theorem cutRow_step (m : DskM) (n j : Nat) (hj : j < m.wi.length) : (cutRow m n j).setIfInBounds m.wi[j].1 (ptrV (m.last m.wi[j].1)) = cutRow m n (j + 1) := by
  unfold cutRow
  apply Array.ext
  · simp
  · intro i h1 h2
    have e : (m.wi.take (j + 1)).map (·.1) = (m.wi.take j).map (·.1) ++ [m.wi[j].1] := by rw [List.take_succ_eq_append_getElem hj, List.map_append]; rfl
    have e2 : ∀ k, k ≠ m.wi[j].1 → m.back (j + 1) k = m.back j k := fun k hk => by
      unfold DskM.back
      rw [e]
      simp only [List.mem_append, List.mem_singleton, hk, or_false]
    have e3 : m.back (j + 1) m.wi[j].1 = m.last m.wi[j].1 := by
      unfold DskM.back
      rw [if_pos (by rw [e]; simp)]
    by_cases hi : m.wi[j].1 = i
    · subst hi
      simp [e3]
    · simp [hi, e2 i (Ne.symm hi)]
theorem DskR.lost {base B : Nat} {w w' : World} {d : DskV} {m : DskM} (h : DskR w base B d m) (hk : Keeps base [121, 165] w w') (hblk : Blk w' B 121 (dskC (lostV d) m.lost)) (hlb : Blk w' m.LB 165 (m.li.map ptrV).toArray)
    (htb : Blk w' m.TB 165 (cutRow m d.lasts.length m.wi.length)) : DskR w' base B (lostV d) m.lost := by
  refine ⟨h.low, h.ne, h.sz, h.n1, hblk, hlb, ?_, ⟨by simp [DskM.lost], .inl ⟨rfl, rfl⟩⟩, h.ll, rfl, by simp [DskM.lost], fun k hk' => ?_, fun k h1 _ => by simp [DskM.lost] at h1, ?_⟩
  · rw [cutRow_all] at htb; exact htb
  · exact (h.last k hk').keeps hk (by simp) (by simp)
  · simp only [DskM.lost, List.map_nil, List.nil_append]
    have := h.nd
    rw [List.nodup_append] at this
    exact this.2.1
end Go.Proofs.YtmgmfnimaafkdaaGreatDoor
namespace Go.Proofs.YtmgmfnimaafkdaaGreatDoor
open Go.RowKit Go.Maps
set_option maxRecDepth 100000

/-- a round of the second loop: j writes are taken back -/
structure CtR (w wr : World) (base B : Nat) (d : DskV) (m : DskM) (j : Nat) : Prop where
  keep : Keeps base [165] w wr
  blk : Blk wr B 121 (dskC d m)
  lb : Blk wr m.LB 165 (m.li.map ptrV).toArray
  tb : Blk wr m.TB 165 (cutRow m d.lasts.length j)
  own : wr.ownsRow base 167 2 (.slice m.A m.wi.length m.c) m.wi.length (m.wi.flatMap fun x => [.int .i64 x.1, ptrV (some x.2)])
theorem CtR.of_below {w wr : World} {base B : Nat} {d : DskV} {m : DskM} (h : DskR w base B d m) (hb : Below w.heap.size w wr) (hw : base ≤ w.heap.size) : CtR w wr base B d m 0 := by
  have k := Keeps.of_below (base := base) (ts := [165]) hb hw
  have k0 := Keeps.of_below (base := base) (ts := []) hb hw
  exact ⟨k, h.blk.keeps k0 (by simp), h.lb.keeps k0 (by simp), by rw [cutRow_zero]; exact h.tb.keeps k0 (by simp), own_keeps h.own k0 (by simp)⟩
theorem CtR.alloc {w wr : World} {base B : Nat} {d : DskV} {m : DskM} {j : Nat} (h : CtR w wr base B d m j) (hb : base ≤ wr.heap.size) (o : Obj) : CtR w (wr.alloc o) base B d m j :=
  ⟨h.keep.alloc hb o, h.blk.alloc o, h.lb.alloc o, h.tb.alloc o, own_keep_alloc h.own o⟩
theorem CtR.drewN {w wr : World} {base B : Nat} {d : DskV} {m : DskM} {j : Nat} (h : CtR w wr base B d m j) (n : Nat) : CtR w (wr.drewN n) base B d m j :=
  ⟨h.keep.drewN n, h.blk, h.lb, h.tb, h.own⟩
theorem CtR.step {w wr : World} {base B : Nat} {d : DskV} {m : DskM} {j : Nat} (h0 : DskR w base B d m) (h : CtR w wr base B d m j) (hj : j < m.wi.length) :
    CtR w (wr.setCell ⟨m.TB, m.wi[j].1, none⟩ (ptrV (m.last m.wi[j].1))) base B d m (j + 1) := by
  have n1 := h.blk.ne h.tb (by decide)
  have k : Keeps base [165] wr (wr.setCell ⟨m.TB, m.wi[j].1, none⟩ (ptrV (m.last m.wi[j].1))) := (Keeps.refl base _ wr).set h.tb h0.low.2.2 (by simp) _
  refine ⟨h.keep.trans k, h.blk.far n1 _, h.lb.far h0.ne _, ?_, own_keeps h.own k (by simp)⟩
  rw [← cutRow_step m _ j hj]
  exact h.tb.set _ _
theorem diskCut0_any {w : World} {base B : Nat} {d : DskV} (h : Dsk w base B d) :
    Calls Tryz.prog 23 #[.pointer (some ⟨B, 0, none⟩), .slice none 0 0, .int .i64 (-1)] w fun e w' => e = .returned (.tuple #[]) ∧ Dsk w' base B (cutD d [] (-1)) ∧ Keeps base [121, 165] w w' := by
  have hD := h
  obtain ⟨m, h⟩ := h
  have hlt := h.blk.lt
  have e4 : w.cell? ⟨B, 4, none⟩ = some (.bool d.off) := h.blk.cell 4
  have e3 : w.cell? ⟨B, 3, none⟩ = some (.slice m.A m.wi.length m.c) := h.blk.cell 3
  have HD := Lib.hid hD
  have HH := Lib.hid h
  have hbase : base ≤ w.heap.size := by have := h.low.1; omega
  obtain ⟨r, hr⟩ : ∃ r, r = cutD d [] (-1) := ⟨_, rfl⟩
  rw [← hr]
  by_cases ho : d.off = true
  · have hr' : r = d := by rw [hr]; unfold cutD; rw [if_pos ho]
    subst hr'
    rw [ho] at e4
    clear h hD hr
    go_enter Tryz.func23, Tryz.ntmps23
    go_wp2
    refine bodyPost_ret (results_none rfl _ _ _) rfl ?_
    exact ⟨rfl, HD.out, Keeps.refl _ _ _⟩
  · have ho' : d.off = false := by simpa using ho
    have hr' : r = lostV d := by rw [hr]; exact cut_nil ho'
    have HR := Lib.hid hr'
    rw [ho'] at e4
    have hmax : m.wi.length ≤ 9223372036854775807 := by
      rcases h.own.2 with ⟨_, h0⟩ | ⟨_, cap, _, hv, _, _, h1, h2, _⟩
      · omega
      · simp only [maxLen] at h2; omega
    clear h hD hr hr'
    go_enter Tryz.func23, Tryz.ntmps23
    go_wp2_with fail
    go_loopw [23] (fun i wr => ∃ j : Nat, j ≤ m.wi.length ∧ i = .int .i64 j ∧ Below w.heap.size w wr) (fun i _ => m.wi.length - (intOf i).toNat)
    case atStart => exact ⟨0, Nat.zero_le _, rfl, Below.refl _ _⟩
    case round =>
      obtain ⟨j, hj, rfl, hb⟩ := hrel
      have HB := Lib.hid hb
      have hB : B < wr.heap.size := by have := hb.size; omega
      have hf := CtR.of_below HH.out hb hbase
      by_cases hjk : j < m.wi.length
      · obtain ⟨wg, hA⟩ : ∃ wg, m.A = some ⟨wg, 0, none⟩ := by
          obtain ⟨g, hg⟩ := own_at hf.own (by omega)
          exact ⟨g, hg.1⟩
        have hc := pair_cells (fun x : Nat × Nat => Value.int .i64 x.1) (fun x => ptrV (some x.2)) m.wi j hjk
        have y0 : wr.cell? ⟨wg, j * 2, none⟩ = some (.int .i64 (m.wi[j].1 : Nat)) := by
          have := (hA ▸ hf.own).cells (g := wg) rfl (j * 2) _ hc.1
          simpa [addr_add] using this
        have y1 : wr.cell? ⟨wg, j * 2 + 1, none⟩ = some (.pointer (some ⟨m.wi[j].2, 0, none⟩)) := by
          have := (hA ▸ hf.own).cells (g := wg) rfl (j * 2 + 1) _ hc.2
          simpa [addr_add, ptrV] using this
        have z1 : ((j : Int) == -1) = false := by simp
        have HA := Lib.hid hA
        rw [hA]
        clear hf hc hA hb
        generalize hx : m.wi[j] = xj at y0 y1
        clear hx
        go_wp2_with fail
        refine ⟨⟨j + 1, by omega, by go_num, ?_⟩, by simp [intOf]; omega⟩
        exact HB.out.alloc (by have := HB.out.size; omega) _
      · obtain rfl : j = m.wi.length := by omega
        have x3 : wr.cell? ⟨B, 3, none⟩ = some (.slice m.A m.wi.length m.c) := hf.blk.cell 3
        have HF0 := Lib.hid hf
        have hsz : w.heap.size ≤ wr.heap.size := hb.size
        clear hf hb
        go_wp2_with fail
        go_loopw [67] (fun i w2 => ∃ j : Nat, j ≤ m.wi.length ∧ i = .int .i64 j ∧ CtR w w2 base B d m j) (fun i _ => m.wi.length - (intOf i).toNat)
        case atStart => exact ⟨0, Nat.zero_le _, rfl, HF0.out⟩
        case round =>
          obtain ⟨j, hj, rfl, hf⟩ := hrel
          have HF := Lib.hid hf
          have hsz2 : base ≤ wr.heap.size := by have := hf.keep.below.size; have := HH.out.low.1; omega
          by_cases hjk : j < m.wi.length
          · obtain ⟨wg, hA⟩ : ∃ wg, m.A = some ⟨wg, 0, none⟩ := by
              obtain ⟨g, hg⟩ := own_at hf.own (by omega)
              exact ⟨g, hg.1⟩
            have hc := pair_cells (fun x : Nat × Nat => Value.int .i64 x.1) (fun x => ptrV (some x.2)) m.wi j hjk
            have y0 : wr.cell? ⟨wg, j * 2, none⟩ = some (.int .i64 (m.wi[j].1 : Nat)) := by
              have := (hA ▸ hf.own).cells (g := wg) rfl (j * 2) _ hc.1
              simpa [addr_add] using this
            have y1 : wr.cell? ⟨wg, j * 2 + 1, none⟩ = some (.pointer (some ⟨m.wi[j].2, 0, none⟩)) := by
              have := (hA ▸ hf.own).cells (g := wg) rfl (j * 2 + 1) _ hc.2
              simpa [addr_add, ptrV] using this
            have x1 : wr.cell? ⟨B, 1, none⟩ = some (.slice (some ⟨m.LB, 0, none⟩) d.lasts.length d.lasts.length) := hf.blk.cell 1
            have x2 : wr.cell? ⟨B, 2, none⟩ = some (.slice (some ⟨m.TB, 0, none⟩) d.lasts.length d.lasts.length) := hf.blk.cell 2
            have hjw : m.wi[j].1 < d.lasts.length := HH.out.wlt _ (List.getElem_mem _)
            have vl : wr.cell? ⟨m.LB, m.wi[j].1, none⟩ = some (ptrV (m.last m.wi[j].1)) := by
              rw [hf.lb.cell, List.getElem?_toArray, List.getElem?_map]
              unfold DskM.last
              rw [List.getD, List.getElem?_eq_getElem (by rw [HH.out.ll]; exact hjw)]; rfl
            obtain ⟨vt, hvt⟩ : ∃ v, wr.cell? ⟨m.TB, m.wi[j].1, none⟩ = some v := by
              rw [hf.tb.cell]
              unfold cutRow
              rw [List.getElem?_toArray]
              exact ⟨_, List.getElem?_eq_getElem (by simpa using hjw)⟩
            have zt := hf.tb.free m.wi[j].1
            have hltb := hf.blk.lt
            have hltl := hf.lb.lt
            have hltt := hf.tb.lt
            have HA := Lib.hid hA
            rw [hA]
            clear hf hc hA
            generalize hx : m.wi[j] = xj at y0 y1 hjw vl hvt zt
            have HX := Lib.hid hx
            clear hx
            obtain ⟨po, hpo⟩ : ∃ po, ptrV (m.last xj.1) = .pointer po := by cases m.last xj.1 <;> exact ⟨_, rfl⟩
            rw [hpo] at vl
            have HPV := Lib.hid hpo
            clear hpo
            go_wp2_with fail
            go_region
            all_goals (try go_wp2_with fail)
            refine ⟨⟨j + 1, by omega, by go_num, ?_⟩, by simp [intOf]; omega⟩
            have hst := ((HF.out.step HH.out hjk).alloc (by simp; exact hsz2) (.cells #[.int .i64 (xj.1 : Nat), .pointer (some ⟨xj.2, 0, none⟩)] 167)).drewN 1
            rw [HX.out, HPV.out] at hst
            exact hst
          · obtain rfl : j = m.wi.length := by omega
            have x3 : wr.cell? ⟨B, 3, none⟩ = some (.slice m.A m.wi.length m.c) := hf.blk.cell 3
            have z3 := hf.blk.free 3
            have x4 : wr.cell? ⟨B, 4, none⟩ = some (.bool d.off) := hf.blk.cell 4
            have z4 := hf.blk.free 4
            have hltr := hf.blk.lt
            clear hf
            go_wp2_with fail
            go_end0
            have hb := HF.out.blk.set 3 (.slice none 0 0)
            have kk : Keeps base [121] wr ((wr.setCell ⟨B, 3, none⟩ (.slice none 0 0)).setCell ⟨B, 4, none⟩ (.bool true)) := ((Keeps.refl base _ wr).set HF.out.blk HH.out.low.1 (by simp) _).set hb HH.out.low.1 (by simp) _
            have kw : Keeps base [121, 165] w ((wr.setCell ⟨B, 3, none⟩ (.slice none 0 0)).setCell ⟨B, 4, none⟩ (.bool true)) := (HF.out.keep.mono (Nat.le_refl _) (by simp)).trans (kk.mono (Nat.le_refl _) (by simp))
            have n1 := HF.out.lb.ne HF.out.blk (by decide)
            have n2 := HF.out.tb.ne HF.out.blk (by decide)
            have hfin := HH.out.lost kw (by
              have e : dskC (lostV d) m.lost = ((dskC d m).setIfInBounds 3 (.slice none 0 0)).setIfInBounds 4 (.bool true) := by
                unfold dskC; simp [lostV, DskM.lost]
              rw [e]; exact hb.set 4 (.bool true)) ((HF.out.lb.far n1 _).far n1 _) ((HF.out.tb.far n2 _).far n2 _)
            rw [HR.out]
            exact ⟨rfl, ⟨_, hfin⟩, kw⟩
end Go.Proofs.YtmgmfnimaafkdaaGreatDoor
namespace Go.Proofs.YtmgmfnimaafkdaaGreatDoor
open Go.RowKit Go.Maps
set_option maxRecDepth 100000

/-- a slice that reads as cells, in a block of a kind -/
def Sl (w : World) (e sz : Nat) (A : Option Addr) (n : Nat) (xs : List Value) : Prop := Rd w w.heap.size sz A n xs ∧ (0 < n → ∀ a, A = some a → tyOf w a.block = some e)
theorem Sl.keeps {base e sz n : Nat} {ts : List TypeId} {w w' : World} {A : Option Addr} {xs : List Value} (h : Sl w e sz A n xs) (k : Keeps base ts w w') (ht : e ∉ ts) : Sl w' e sz A n xs := by
  refine ⟨⟨h.1.1, fun hn => ?_⟩, fun hn a ha => ?_⟩
  · obtain ⟨b, o, rfl, hb, hc⟩ := h.1.2 hn
    have e := k.old b _ (h.2 hn _ rfl) ht
    exact ⟨b, o, rfl, Nat.lt_of_lt_of_le hb k.below.size, fun j hj => by rw [← hc j hj]; simp only [World.cell?, e]⟩
  · have := h.2 hn a ha
    have e := k.old a.block _ this ht
    unfold tyOf at this ⊢
    rw [e]; exact this
theorem Sl.below {e sz n : Nat} {w w' : World} {A : Option Addr} {xs : List Value} (h : Sl w e sz A n xs) (k : Below w.heap.size w w') : Sl w' e sz A n xs := h.keeps (ts := []) (Keeps.of_below (base := 0) k (Nat.zero_le _)) (by simp)
theorem Sl.nil {e sz : Nat} {w : World} {A : Option Addr} : Sl w e sz A 0 [] := ⟨⟨by simp, fun h => absurd h (by omega)⟩, fun h => absurd h (by omega)⟩
theorem Sl.of_own {w : World} {base e size n c : Nat} {A : Option Addr} {xs : List Value} (h : w.ownsRow base e size (.slice A n c) n xs) : Sl w e size A n xs :=
  ⟨own_rd h, fun _ a ha => by subst ha; exact own_ty h (g := a.block) (by
    rcases h.2 with ⟨hv, _⟩ | ⟨g, cap, cur, hv, _⟩
    · cases hv
    · injection hv with hA; injection hA with hA; subst hA; rfl)⟩
theorem Sl.of_blk {w : World} {g e sz n : Nat} {xs : List Value} (h : Blk w g e xs.toArray) (hn : xs.length = n * sz) : Sl w e sz (some ⟨g, 0, none⟩) n xs := by
  refine ⟨⟨hn, fun _ => ⟨g, 0, rfl, h.lt, fun j hj => ?_⟩⟩, fun _ a ha => by injection ha with ha; subst ha; exact h.ty⟩
  rw [h.cell]; simp [hj]
theorem Byt.sl {w : World} {A : Option Addr} {l : List UInt8} (h : Byt w A l) : Sl w 5 1 A l.length (l.map u8v) := h
theorem Byt.of_blk {w : World} {g : Nat} {l : List UInt8} (h : Blk w g 5 (l.map u8v).toArray) : Byt w (some ⟨g, 0, none⟩) l := Sl.of_blk h (by simp)
theorem Byt.of_own {w : World} {base c : Nat} {A : Option Addr} {l : List UInt8} (h : w.ownsRow base 5 1 (.slice A l.length c) l.length (l.map u8v)) : Byt w A l := Sl.of_own h
theorem Byt.nil {w : World} {A : Option Addr} : Byt w A [] := Sl.nil
/-- bytes within bytes -/
theorem Byt.sub {w : World} {b o : Nat} {l : List UInt8} (h : Byt w (some ⟨b, o, none⟩) l) {i k : Nat} (hk : i + k ≤ l.length) : Byt w (some ⟨b, o + i, none⟩) ((l.drop i).take k) := by
  have hl : ((l.drop i).take k).length = k := by rw [List.length_take, List.length_drop]; omega
  refine ⟨⟨by simp, fun hn => ?_⟩, fun hn a ha => ?_⟩
  · rw [hl] at hn
    obtain ⟨b', o', hA, hb, hc⟩ := h.1.2 (by omega)
    injection hA with hA; injection hA with h1 h2 h3
    subst h1; subst h2
    refine ⟨b, o + i, rfl, hb, fun j hj => ?_⟩
    rw [List.length_map, hl] at hj
    have := hc (i + j) (by rw [List.length_map]; omega)
    rw [Nat.add_assoc, this]
    simp
  · rw [hl] at hn
    injection ha with ha
    subst ha
    exact h.2 (by omega) ⟨b, o, none⟩ rfl
theorem Byt.at {w : World} {A : Option Addr} {l : List UInt8} (h : Byt w A l) (hn : 0 < l.length) : ∃ b o, A = some ⟨b, o, none⟩ ∧ b < w.heap.size ∧ tyOf w b = some 5 ∧ ∀ j (hj : j < l.length), w.cell? ⟨b, o + j, none⟩ = some (.int .u8 l[j].toNat) := by
  obtain ⟨b, o, rfl, hb, hc⟩ := h.1.2 hn
  refine ⟨b, o, rfl, hb, h.2 hn _ rfl, fun j hj => ?_⟩
  have := hc j (by simpa using hj)
  simpa [u8v] using this
theorem Byt.rd {w : World} {A : Option Addr} {l : List UInt8} (h : Byt w A l) : Rd w w.heap.size 1 A l.length (l.map u8v) := h.1
theorem gby_setRow (w : World) (g : Nat) (cs : Array Value) : w.grownBy (w.setRow g cs) (some g) := ⟨rfl, rfl, rfl, by simp, fun k _ hk => setRow_other w g k _ (fun e => hk (by rw [e]))⟩
/-- copied into a row of one's own -/
theorem run_copied (w : World) (g o k c : Nat) (X b : List UInt8) (A : Option Addr) (c2 : Nat) (hg : Blk w g 5 (X.map u8v).toArray) (hb : Byt w A b) (ho : o + k ≤ X.length) :
    ∃ w1, (Builtin.copy_ #[43, 43] 3 #[.slice (some ⟨g, o, none⟩) k c, .slice A b.length c2]).run Tryz.prog w = .ok (.int .i64 (min b.length k : Nat)) w1 ∧ Blk w1 g 5 ((splice X o (b.take k)).map u8v).toArray ∧ w.grownBy w1 (some g) := by
  have hlen : ((b.take k).map u8v).length = Nat.min b.length k := by rw [List.length_map, List.length_take, Nat.min_comm]
  have fin : ∀ a : Addr, (∀ j v, ((b.take k).map u8v)[j]? = some v → w.cell? (a.add j) = some v) → ∃ w1, (Builtin.copy_ #[43, 43] 3 #[.slice (some ⟨g, o, none⟩) k c, .slice (some a) b.length c2]).run Tryz.prog w = .ok (.int .i64 (min b.length k : Nat)) w1 ∧ Blk w1 g 5 ((splice X o (b.take k)).map u8v).toArray ∧ w.grownBy w1 (some g) := by
    intro a hsrc
    have h := run_copy_row (P := Tryz.prog) w 43 43 3 5 g o k c a b.length c2 _ 5 ((b.take k).map u8v) under43 (by kernel_rfl) hg hlen hsrc (by rw [hlen]; simp; have : Nat.min b.length k ≤ k := Nat.min_le_right _ _; omega) (u8v_one _)
    refine ⟨_, h.trans (congrArg (fun n : Nat => Result.ok (goInt n) _) hlen), ?_, gby_setRow w g _⟩
    have := setRow_heap w g ((X.map u8v).toArray) (((X.map u8v).toArray.toList.take o ++ (b.take k).map u8v ++ (X.map u8v).toArray.toList.drop (o + ((b.take k).map u8v).length)).toArray) 5 (0, 0) hg
    have e : ((X.map u8v).toArray.toList.take o ++ (b.take k).map u8v ++ (X.map u8v).toArray.toList.drop (o + ((b.take k).map u8v).length)).toArray = ((splice X o (b.take k)).map u8v).toArray := by
      simp [splice]
    rw [e] at this ⊢
    exact this
  by_cases hz : 0 < b.length
  · obtain ⟨bb, oo, rfl, hb1, _, hc⟩ := hb.at hz
    refine fin _ fun j v hv => ?_
    obtain ⟨hj, rfl⟩ := List.getElem?_eq_some_iff.1 hv
    rw [addr_add]
    rw [List.length_map, List.length_take] at hj
    rw [hc j (by omega)]
    simp [u8v]
  · obtain rfl : b = [] := List.eq_nil_of_length_eq_zero (by omega)
    cases A with
    | some a => exact fin a fun j v hv => by simp at hv
    | none =>
      refine ⟨w, ?_, by simpa [splice] using hg, gby_refl _ _⟩
      simp [Builtin.copy_, run_underlying under43, Builtin.lenOf, Builtin.firstCells]
      rfl
end Go.Proofs.YtmgmfnimaafkdaaGreatDoor
