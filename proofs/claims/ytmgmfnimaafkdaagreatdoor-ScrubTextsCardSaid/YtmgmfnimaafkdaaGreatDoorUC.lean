/- The marks of a store turned: one behind the others, and back.  A mark is kept.  -/
import Derived.Test.YtmgmfnimaafkdaaGreatDoorVV
import Derived.StillTailTactics
namespace Go.Proofs.YtmgmfnimaafkdaaGreatDoor
open Go.RowKit Go.Maps Go.Shelf Go.Sort
set_option maxRecDepth 100000

theorem under33 : Tryz.prog.underlying 33 = some (.slice 9) := by kernel_rfl
theorem info9 : (Tryz.prog.info? 9).map (fun i => (i.zero, i.size, i.bytes)) = some (some (.string ⟨#[]⟩), 1, 16) := by kernel_rfl
/-- 'append' from a slice that reads as a list, at a step of a region that draws its order; which block it is told, too -/
theorem step_append_rb {P : Program} (w : World) {ops : Array Oper} {o : Oper} {a : Act} {K : Act → World → Prop} {Q : Exit → Act → World → Prop} {E : Prop} (hgd : o.guard = none) (s x : Operand) (t : TypeId)
    (ho : o.op = .call { callee := .builtin .append, args := #[s, x], argTypes := #[t, t] })
    (base : Nat) (e : TypeId) (i : TypeInfo) (z : Value) (size bytes : Nat) (ht : P.underlying t = some (.slice e)) (hi : P.info? e = some i) (hz : i.zero = some z)
    (hsize : i.size = size) (hby : i.bytes = bytes) (hzs : z.cells.size = size) (hsz : 0 < size)
    (v : Value) (n : Nat) (xs : List Value) (hs : a.eval s = v) (hown : w.ownsRow base e size v n xs)
    (A : Option Addr) (m c B : Nat) (news : List Value) (hx : a.eval x = .slice A m c) (hr : Rd w B size A m news) (h1 : ∀ u ∈ news, u.oneCell' = true)
    (h63 : n + m ≤ maxLen) (hbytes : (n + m) * bytes ≤ 140737488355328) (hbase : base ≤ w.heap.size)
    (h : ∀ A' c' w', w'.ownsRow base e size (.slice A' (n + m) c') (n + m) (xs ++ news) → w.grownBy w' v.ownBlock → n + m ≤ c' → ((Value.slice A' (n + m) c').ownBlock = v.ownBlock ∨ (Value.slice A' (n + m) c').ownBlock = some w.heap.size) → K (a.put o.dst (.slice A' (n + m) c')) w') :
    if Region.wanted o (yielded ops a.tmps) = true then Oper.wp P o a w K Q else E := by
  have hw : Region.wanted o (yielded ops a.tmps) = true := by simp [Region.wanted, hgd]
  rw [if_pos hw]
  obtain ⟨A', c', w', hrun, h2, h3, h4, h5⟩ := run_append_rd (P := P) w base t o.type e i z size bytes ht hi hz hsize hby hzs hsz v n xs hown A m c B news hr h1 h63 hbytes hbase
  unfold Oper.wp execOp
  simp only [ho, resolve, invoke, builtin, Sem.run_bind, Sem.run_pure, Result.andThen_ok, List.map_toArray, List.map_cons, List.map_nil, hs, hx, hrun]
  exact h A' c' w' h2 h3 h4 h5
theorem StR.marksTo {w w' : World} {base Sb : Nat} {s : StV} {m : StM} (h : StR w base Sb s m) (k : Keeps base [9, 129] w w') {l' : List (List UInt8)} {A : Option Addr} {c : Nat} (hb : Blk w' Sb 129 (stC { s with marks := l' } { m with A := A, c := c })) (ho : w'.ownsRow base 9 1 (.slice A l'.length c) l'.length (l'.map strV)) :
    StR w' base Sb { s with marks := l' } { m with A := A, c := c } :=
  ⟨h.low, hb, h.dsk.keeps k (by decide) (by decide) (by decide) (by decide) (by decide), h.log.keeps k (by decide) (by decide) (by decide), h.map.keeps k (by decide) (by decide), h.nmap.keeps k (by decide), h.nlow, h.pmap.keeps k (by decide), h.plow, h.ne, ho, h.tab.below k.below, h.b2⟩
/-- a mark behind the others: the row, then the store's own cell -/
theorem StR.markOn {w w4 : World} {base Sb : Nat} {s : StV} {m : StM} (h : StR w base Sb s m) {t : List UInt8} {A : Option Addr} {c : Nat} (hg : w.grownBy w4 (Value.slice m.A s.marks.length m.c).ownBlock) (ho : w4.ownsRow base 9 1 (.slice A (s.marks.length + 1) c) (s.marks.length + 1) (s.marks.map strV ++ [strV t]))
    (hn : (Value.slice A (s.marks.length + 1) c).ownBlock = (Value.slice m.A s.marks.length m.c).ownBlock ∨ (Value.slice A (s.marks.length + 1) c).ownBlock = some w.heap.size) :
    StR (w4.setCell ⟨Sb, 6, none⟩ (.slice A (s.marks.length + 1) c)) base Sb { s with marks := s.marks ++ [t] } { m with A := A, c := c } ∧ KeepS base m { m with A := A, c := c } w (w4.setCell ⟨Sb, 6, none⟩ (.slice A (s.marks.length + 1) c)) ∧ Keeps base [9, 129] w (w4.setCell ⟨Sb, 6, none⟩ (.slice A (s.marks.length + 1) c)) ∧ Blk w4 Sb 129 (stC s m) := by
  have k4 : Keeps base [9] w w4 := keeps_own_grown h.mks hg h.lt
  have b4 := h.blk.keeps k4 (by decide)
  have k5 : Keeps base [129] w4 (w4.setCell ⟨Sb, 6, none⟩ (.slice A (s.marks.length + 1) c)) := (Keeps.refl base [129] w4).set b4 h.low (by simp) _
  have k6 := (k4.mono (Nat.le_refl _) (ts' := [9, 129]) (by simp)).trans (k5.mono (Nat.le_refl _) (by simp))
  have b5 : Blk (w4.setCell ⟨Sb, 6, none⟩ (.slice A (s.marks.length + 1) c)) Sb 129 (stC { s with marks := s.marks ++ [t] } { m with A := A, c := c }) := by
    have := b4.set 6 (.slice A (s.marks.length + 1) c)
    unfold stC at this ⊢
    simpa using this
  have o5 := own_keeps ho k5 (by decide)
  refine ⟨h.marksTo k6 b5 (by simpa using o5), ⟨k6.below, fun k ty hk hn' h1 h2 h3 => ?_, rfl, rfl, rfl, rfl, rfl, fun a ha => ?_⟩, k6, b4⟩
  · have hne : k ≠ Sb := fun e => by
      subst e
      have := h.blk.ty.symm.trans hk
      injection this with this
      exact hn' (by rw [← this]; simp)
    rw [Below.heap_setCell w4 ⟨Sb, 6, none⟩ _ k hne]
    refine hg.block k (tyOf_lt hk) (fun e => ?_)
    cases hA : m.A with
    | none => rw [hA] at e; simp [Value.ownBlock] at e
    | some a => rw [hA] at e; simp [Value.ownBlock] at e; exact h3 a hA e
  · have ha : A = some a := ha
    subst ha
    rcases hn with e | e
    · cases hA : m.A with
      | none => rw [hA] at e; simp [Value.ownBlock] at e
      | some b => rw [hA] at e; simp [Value.ownBlock] at e; exact .inl ⟨b, rfl, e⟩
    · simp [Value.ownBlock] at e
      exact .inr (by omega)
/-- the last mark struck -/
theorem own_shrink {w : World} {base e n c k : Nat} {A : Option Addr} {xs : List Value} (h : w.ownsRow base e 1 (.slice A n c) n xs) (hk : k ≤ n) (hn : A = none → k = 0 ∧ c = 0) : w.ownsRow base e 1 (.slice A k c) k (xs.take k) := by
  refine ⟨by rw [List.length_take, own_len h]; omega, ?_⟩
  rcases h.2 with ⟨hv, h0⟩ | ⟨g, cap, cur, hv, hb, hg, h1, h2, h3, h4⟩
  · injection hv with h5 h6 h7
    subst h5; subst h7
    exact .inl ⟨by rw [(hn rfl).1], by omega⟩
  · injection hv with h5 h6 h7
    subst h5; subst h7
    exact .inr ⟨g, c, cur, rfl, hb, hg, by omega, h2, h3, by rw [← h4, List.take_take]; congr 1; omega⟩
/-- the marks' row, turned in place: KeepS where only the store's own cell turns -/
theorem KeepS.cell {w : World} {base Sb : Nat} {m : StM} {cs : Array Value} (hb : Blk w Sb 129 cs) (hl : base ≤ Sb) (o : Nat) (u : Value) (A : Option Addr) (c : Nat) (hA : ∀ a, A = some a → ∃ b, m.A = some b ∧ a.block = b.block) : KeepS base m { m with A := A, c := c } w (w.setCell ⟨Sb, o, none⟩ u) :=
  ⟨below_set (Below.refl _ _) hl _, fun k ty hk hn' _ _ _ => Below.heap_setCell w ⟨Sb, o, none⟩ u k (fun e => by
    subst e
    have := hb.ty.symm.trans hk
    injection this with this
    exact hn' (by rw [← this]; simp)), rfl, rfl, rfl, rfl, rfl, fun a ha => .inl (hA a ha)⟩
set_option maxHeartbeats 4000000 in
theorem undoMark_any {w : World} {base Sb X : Nat} {s : StV} {m : StM} {t : List UInt8} (h : StR w base Sb { s with marks := s.marks ++ [t] } m) (hx : Blk w X 28 #[.pointer (some ⟨Sb, 0, none⟩)]) (hl : s.marks.length < 1000000) :
    Calls Tryz.prog 72 #[.pointer (some ⟨X, 0, none⟩)] w fun e w' => e = .returned (.tuple #[]) ∧ ∃ m', StR w' base Sb s m' ∧ KeepS base m m' w w' := by
  obtain ⟨nn, hnn⟩ : ∃ nn, nn = s.marks.length := ⟨_, rfl⟩
  have hlen : (s.marks ++ [t]).length = nn + 1 := by simp [hnn]
  have ho := h.mks
  have hb := h.blk
  simp only [stC] at hb ho
  rw [hlen] at ho hb
  obtain ⟨g, hA, hbg, hgl, _⟩ := own_at ho (by omega)
  have hs := own_shrink ho (k := nn) (by omega) (fun e => by rw [hA] at e; cases e)
  have htk : ((s.marks ++ [t]).map strV).take nn = s.marks.map strV := by rw [List.map_append, List.take_left' (by simp [hnn])]
  rw [htk] at hs
  obtain ⟨_, _, hv, hnc⟩ := own_form ho
  injection hv with _ _ hv
  subst hv
  have HH := Lib.hid h
  have HB := Lib.hid hb
  have HO := Lib.hid hs
  have hlow := h.low
  have hbd := h.lt
  have c0 : w.drew.cell? ⟨X, 0, none⟩ = some (.pointer (some ⟨Sb, 0, none⟩)) := hx.drew.cell 0
  have c6 : w.drew.cell? ⟨Sb, 6, none⟩ = some (.slice m.A (nn + 1) m.c) := hb.drew.cell 6
  have f6 := hb.drew.free 6
  have xl : X < w.drew.heap.size := hx.lt
  have bl : Sb < w.drew.heap.size := hb.lt
  have q1 : ((nn + 1 : Nat) : Int) - 1 = (nn : Int) := by omega
  have q2 : IntKind.i64.wrap (nn : Int) = (nn : Int) := by rw [IntKind.wrap_i64]; omega
  have hcm : nn + 1 ≤ m.c := hnc
  have q3 : (nn : Int) ≤ (m.c : Int) := by omega
  have q4 : (0 : Int) ≤ (nn : Int) := by omega
  have HNN := Lib.hid hnn
  rw [hA] at c6
  have HA := Lib.hid hA
  clear h hb ho hs htk hlen hnn hx hnc hA
  go_enter Tryz.func72, Tryz.ntmps72
  go_upto_region 0 with fail
  go_still_tail 14, (by kernel_rfl)
  go_simp
  go_wp2
  go_end0
  obtain rfl : nn = s.marks.length := HNN.out
  have k5 : Keeps base [129] w (w.setCell ⟨Sb, 6, none⟩ (.slice (some ⟨g, 0, none⟩) s.marks.length m.c)) := (Keeps.refl base [129] w).set HB.out hlow (by simp) _
  have b5 : Blk (w.setCell ⟨Sb, 6, none⟩ (.slice (some ⟨g, 0, none⟩) s.marks.length m.c)) Sb 129 (stC s m) := by
    have := HB.out.set 6 (.slice (some ⟨g, 0, none⟩) s.marks.length m.c)
    unfold stC
    rw [HA.out]
    simpa using this
  have o5 := own_keeps HO.out k5 (by decide)
  have h5 : StR (w.setCell ⟨Sb, 6, none⟩ (.slice (some ⟨g, 0, none⟩) s.marks.length m.c)) base Sb s m := HH.out.marksTo (l' := s.marks) (A := m.A) (c := m.c) (k5.mono (Nat.le_refl _) (by simp)) b5 o5
  have e5 : KeepS base m m w (w.setCell ⟨Sb, 6, none⟩ (.slice (some ⟨g, 0, none⟩) s.marks.length m.c)) := KeepS.of k5 (by simp)
  exact ⟨rfl, m, h5.below (Below.refl _ _).drew, e5.trans (KeepS.of (ts := []) (Keeps.of_below (base := base) (Below.refl _ _).drew h5.lt) (by simp))⟩
end Go.Proofs.YtmgmfnimaafkdaaGreatDoor
namespace Go.Proofs.YtmgmfnimaafkdaaGreatDoor
open Go.RowKit Go.Maps Go.Shelf Go.Sort
set_option maxRecDepth 100000

theorem KeepS.blk {w w' : World} {base Sb g : Nat} {s : StV} {m m' : StM} {t : TypeId} {cs : Array Value} (k : KeepS base m m' w w') (h : StR w base Sb s m) (hb : Blk w g t cs) (ht : t ∉ ([121, 165, 167, 216, 137, 220, 129] : List TypeId)) (h9 : (9 : TypeId) ≠ t) : Blk w' g t cs :=
  (k.old g t hb.ty ht (fun e => h.nmap.no_blk hb e.symm) (fun e => h.pmap.no_blk hb e.symm) (fun a ha e => own_ne h.mks hb h9 (by rw [ha]; simp [Value.ownBlock, e]))).trans hb
theorem KeepS.of_below {w w' : World} {base : Nat} {m : StM} (h : Below w.heap.size w w') (hb : base ≤ w.heap.size) : KeepS base m m w w' := KeepS.of (ts := []) (Keeps.of_below h hb) (by simp)
/-- what a store's acts leave -/
def ActOut (w w' : World) (base Sb : Nat) (m : StM) (r : Nat × StV) (e : Ending) : Prop := e = .returned (.int .i64 r.1) ∧ ∃ m', StR w' base Sb r.2 m' ∧ KeepS base m m' w w'
theorem StOK.marked {s : StV} (ok : StOK s) {t : List UInt8} (ht : t.length ≤ 3000) : StL { s with marks := s.marks ++ [t] } := by
  have h := ok.l
  refine ⟨h.srtS, h.num, h.srtN, h.txt, fun x hx => ?_, h.nS, h.nN, ?_⟩
  · rcases List.mem_append.1 hx with hx | hx
    · exact h.mks x hx
    · rw [List.mem_singleton] at hx; subst hx; exact ht
  · have := ok.nM
    show (s.marks ++ [t]).length ≤ _
    rw [List.length_append, List.length_singleton]
    omega
theorem loggedS_ok {s was : StV} {r : RecL} {d : DskV} {l : LogV} (h : addTurn s r = (0, d, l)) : loggedS s was r = (0, { s with d := d, log := l }) := by rw [loggedS_eq, h]; rfl
theorem loggedS_no {s was : StV} {r : RecL} {e : Nat} {d : DskV} {l : LogV} (h : addTurn s r = (e, d, l)) (he : e ≠ 0) : loggedS s was r = (e, { was with d := d, log := l }) := by
  rw [loggedS_eq, h]
  cases e with
  | zero => exact absurd rfl he
  | succ e => rfl
theorem loggedS_fst {s was : StV} {r : RecL} : (loggedS s was r).1 = (addTurn s r).1 := by
  rw [loggedS_eq]
  rcases addTurn s r with ⟨e, d, l⟩
  cases e <;> rfl
set_option maxHeartbeats 8000000 in
theorem mark_any {w : World} {base Sb : Nat} {s : StV} {m : StM} (h : StR w base Sb s m) (ok : StOK s) (t : List UInt8) :
    Calls Tryz.prog 18 #[.pointer (some ⟨Sb, 0, none⟩), strV t] w fun e w' => ActOut w w' base Sb m (markStore s t) e := by
  have HH := Lib.hid h
  have HK := Lib.hid ok
  have hlt := h.lt
  have hsl := h.blk.lt
  have hsz : (⟨t.toArray⟩ : ByteArray).size = t.length := by simp [ByteArray.size]
  have HX := Lib.hid (Blk.new w 28 #[.pointer (some ⟨Sb, 0, none⟩)])
  have HB0 : Hid (Below w.heap.size w (w.alloc (.cells #[.pointer (some ⟨Sb, 0, none⟩)] 28))) := (Below.refl _ _).alloc (Nat.le_refl _) _
  obtain ⟨q, hq⟩ : ∃ q, q = markStore s t := ⟨_, rfl⟩
  rw [← hq]
  have HQ := Lib.hid hq
  clear h ok hq
  by_cases ht : 3000 < t.length
  · have hq1 : q = (1, s) := by rw [HQ.out]; unfold markStore; rw [if_pos ht]
    subst hq1
    have c0 := HX.out.cell 0
    have xl := HX.out.lt
    have ht' : (t.length : Int) > 3000 := by omega
    unfold strV
    go_enter Tryz.func18, Tryz.ntmps18
    go_wp2_with fail
    go_ret
    exact ⟨rfl, m, HH.out.below HB0.out, KeepS.of_below HB0.out hlt⟩
  · have ht' : ¬ ((t.length : Int) > 3000) := by omega
    unfold strV
    go_enter Tryz.func18, Tryz.ntmps18
    go_upto_region 5 with fail
    generalize w.alloc (.cells #[.pointer (some ⟨Sb, 0, none⟩)] 28) = w1 at *
    have hw1 := HB0.out.size
    have hbw1 : base ≤ w1.heap.size := Nat.le_trans hlt hw1
    obtain ⟨i9, hi9, hz0, hz1, hz2⟩ := info_parts info9
    have hnm := HK.out.nM
    obtain ⟨n, hn⟩ : ∃ n, n = s.marks.length := ⟨_, rfl⟩
    rw [← hn] at hnm
    have HN := Lib.hid hn
    clear hn
    have H1 := Lib.hid (HH.out.below HB0.out)
    have SK := Lib.hid (show ∀ wy, Below w1.heap.size w1 wy → wy.cell? ⟨w.heap.size, 0, none⟩ = some (.pointer (some ⟨Sb, 0, none⟩)) ∧ wy.cell? ⟨Sb, 6, none⟩ = some (.slice m.A n m.c) from fun wy hy => by
      have hx := HX.out.below hy HX.out.lt
      have := (H1.out.below hy).blk.cell 6
      rw [HN.out]
      exact ⟨hx.cell 0, this⟩)
    have BZ : Hid (Below w1.heap.size w1 (w1.alloc (.cells #[.string ⟨t.toArray⟩] 9)).drew) := ((Below.refl _ _).alloc (Nat.le_refl _) _).drew
    obtain ⟨d1, d2⟩ := SK.out _ (Below.refl _ _).drew
    obtain ⟨d3, d4⟩ := SK.out _ BZ.out
    have HOW : Hid ((w1.alloc (.cells #[.string ⟨t.toArray⟩] 9)).drew.ownsRow base 9 1 (.slice m.A n m.c) n (s.marks.map strV)) := by
      have := (H1.out.below BZ.out).mks
      show World.ownsRow _ _ _ _ _ _ _
      rw [HN.out]; exact this
    have HRD : Hid (Rd (w1.alloc (.cells #[.string ⟨t.toArray⟩] 9)).drew (w1.alloc (.cells #[.string ⟨t.toArray⟩] 9)).drew.heap.size 1 (some ⟨w1.heap.size, 0, none⟩) 1 [strV t]) :=
      sl_rd (Sl.of_blk (sz := 1) (n := 1) (xs := [strV t]) (Blk.new w1 9 #[strV t]).drew rfl)
    have H1C : Hid (∀ u ∈ ([strV t] : List Value), u.oneCell' = true) := by
      show ∀ u ∈ ([strV t] : List Value), u.oneCell' = true
      intro u hu
      rw [List.mem_singleton] at hu
      subst hu; rfl
    have HMK := Lib.hid (show ∀ w4 A c, w4.ownsRow base 9 1 (.slice A (n + 1) c) (n + 1) (s.marks.map strV ++ [strV t]) → (w1.alloc (.cells #[.string ⟨t.toArray⟩] 9)).drew.grownBy w4 (Value.slice m.A n m.c).ownBlock → ((Value.slice A (n + 1) c).ownBlock = (Value.slice m.A n m.c).ownBlock ∨ (Value.slice A (n + 1) c).ownBlock = some (w1.alloc (.cells #[.string ⟨t.toArray⟩] 9)).drew.heap.size) →
        (StR (w4.setCell ⟨Sb, 6, none⟩ (.slice A (n + 1) c)) base Sb { s with marks := s.marks ++ [t] } { m with A := A, c := c } ∧ KeepS base m { m with A := A, c := c } w (w4.setCell ⟨Sb, 6, none⟩ (.slice A (n + 1) c)) ∧ Blk (w4.setCell ⟨Sb, 6, none⟩ (.slice A (n + 1) c)) w.heap.size 28 #[.pointer (some ⟨Sb, 0, none⟩)]) ∧ w4.cell? ⟨Sb, 6, none⟩ = some (.slice m.A n m.c) ∧ w4.frozen? ⟨Sb, 6, none⟩ = false ∧ Sb < w4.heap.size ∧ w4.cell? ⟨w.heap.size, 0, none⟩ = some (.pointer (some ⟨Sb, 0, none⟩)) from fun w4 A c h1 h2 h3 => by
      have hz := H1.out.below BZ.out
      have hn := HN.out
      subst hn
      obtain ⟨g1, g2, g3, g4⟩ := hz.markOn h2 h1 h3
      have hx := (HX.out.below BZ.out HX.out.lt).keeps g3 (by decide)
      have hx4 := (HX.out.below BZ.out HX.out.lt).keeps (keeps_own_grown hz.mks h2 hz.lt) (by decide)
      exact ⟨⟨g1, (KeepS.of_below (m := m) (HB0.out.trans (BZ.out.mono hw1)) hlt).trans g2, hx⟩, g4.cell 6, g4.free 6, g4.lt, hx4.cell 0⟩)
    go_cut [4] (fun v4 wx => v4 = .int .i64 0 ∧ ∃ A c, StR wx base Sb { s with marks := s.marks ++ [t] } { m with A := A, c := c } ∧ KeepS base m { m with A := A, c := c } w wx ∧ Blk wx w.heap.size 28 #[.pointer (some ⟨Sb, 0, none⟩)])
    case first =>
      go_region_law (first
        | (refine step_append_rb _ (by rfl) _ _ 33 (by rfl) base 9 i9 _ 1 16 under33 hi9 hz0 hz1 hz2 rfl (by decide) (.slice m.A n m.c) n (s.marks.map strV) (by rfl) HOW.out (some ⟨w1.heap.size, 0, none⟩) 1 1 _ [strV t] (by rfl) HRD.out H1C.out (by unfold maxLen; omega) (by omega) (by simp; omega) ?_; intro A4 c4 w4 hown4 hgr4 hnc4 hob4; (obtain ⟨hq4, y1, y2, y3, y4⟩ := HMK.out w4 A4 c4 hown4 hgr4 hob4); (have HQ4 := Lib.hid hq4); clear hown4 hgr4 hob4 hq4)
        | (go_simp; refine step_append_rb _ (by rfl) _ _ 33 (by rfl) base 9 i9 _ 1 16 under33 hi9 hz0 hz1 hz2 rfl (by decide) (.slice m.A n m.c) n (s.marks.map strV) (by rfl) HOW.out (some ⟨w1.heap.size, 0, none⟩) 1 1 _ [strV t] (by rfl) HRD.out H1C.out (by unfold maxLen; omega) (by omega) (by simp; omega) ?_; intro A4 c4 w4 hown4 hgr4 hnc4 hob4; (obtain ⟨hq4, y1, y2, y3, y4⟩ := HMK.out w4 A4 c4 hown4 hgr4 hob4); (have HQ4 := Lib.hid hq4); clear hown4 hgr4 hob4 hq4))
      all_goals
        go_wp2_with fail
        go_meet
        exact ⟨rfl, A4, c4, HQ4.out⟩
    case rest =>
      obtain ⟨rfl, A4, c4, hs5, hk5, hx5⟩ := hcut
      have HS5 := Lib.hid hs5
      have HK5 := Lib.hid hk5
      have HX5 := Lib.hid hx5
      have hb5 := hs5.lt
      have hsl5 := hs5.blk.lt
      have xl5 := hx5.lt
      obtain ⟨X, hX⟩ : ∃ X, X = w.heap.size := ⟨_, rfl⟩
      rw [← hX] at HX5 xl5 ⊢
      clear hX d1 d2 d3 d4 HOW HRD H1C HMK BZ SK hs5 hk5 hx5 H1 HN hi9 hz0 hz1 hz2
      have HRE := Lib.hid (fun wy => record_any (w := wy) 77 t)
      have HLG := Lib.hid (show ∀ wy A c, Below wc.heap.size wc wy → Byt wy A t → t.length ≤ c → Calls Tryz.prog 70 #[.pointer (some ⟨Sb, 0, none⟩), .agg #[.int .u8 77, .slice A t.length c], .func (.func 72) #[] #[.pointer (some ⟨X, 0, none⟩)]] wy fun e w' => e = .returned (.int .i64 (loggedS { s with marks := s.marks ++ [t] } s (77, t)).1) ∧ ∃ m', StR w' base Sb (loggedS { s with marks := s.marks ++ [t] } s (77, t)).2 m' ∧ KeepS base m m' w w' ∧ Blk w' X 28 #[.pointer (some ⟨Sb, 0, none⟩)] from fun wy A c hy hby hc => by
        have hh := HS5.out.below hy
        have okl := HK.out.marked (t := t) (by omega)
        have hx := HX5.out.below hy HX5.out.lt
        have hkw := HK5.out.trans (KeepS.of_below (m := { m with A := A4, c := c4 }) hy hb5)
        have hnN := HK.out.nN
        have hnS := HK.out.nS
        have hnM := HK.out.nM
        have := logged_any hh okl (by have := HK.out.wt; show s.d.waits.length ≤ _; omega) (by have := HK.out.ep; show s.log.epoch + 2 < _; omega) HK.out.at' HK.out.lsz (77, t) (by show 77 < 256; decide) (by show t.length < _; omega) A c hby hc
          (by rw [records_eq, List.length_append, List.length_append, List.length_map, List.length_map, List.length_map]; show s.notes.length + s.slices.length + (s.marks ++ [t]).length ≤ _; rw [List.length_append, List.length_singleton]; omega)
          72 #[.pointer (some ⟨X, 0, none⟩)] (fun _ _ => rfl)
          (fun w' => ∃ m', StR w' base Sb (loggedS { s with marks := s.marks ++ [t] } s (77, t)).2 m' ∧ KeepS base m m' w w' ∧ Blk w' X 28 #[.pointer (some ⟨Sb, 0, none⟩)])
          (fun w' d l hd hk hs => by
            rw [loggedS_ok hd]
            exact ⟨_, hs, hkw.trans (KeepS.of hk (by simp)), hx.keeps hk (by decide)⟩)
          (fun wz e d l hd he hk hs => by
            rw [loggedS_no hd he]
            have hxz := hx.keeps hk (by decide)
            refine (undoMark_any (s := { s with d := d, log := l }) hs hxz (by show s.marks.length < _; omega)).mono ?_
            rintro en w' ⟨h1, m', h2, h3⟩
            exact ⟨h1, m', h2, (hkw.trans (KeepS.of hk (by simp))).trans h3, h3.blk hs hxz (by decide) (by decide)⟩)
        rw [← loggedS_fst (was := s)] at this
        exact this)
      have SKc := Lib.hid (show ∀ wy, Below wc.heap.size wc wy → wy.cell? ⟨X, 0, none⟩ = some (.pointer (some ⟨Sb, 0, none⟩)) from fun wy hy => (HX5.out.below hy HX5.out.lt).cell 0)
      have S0 := Lib.hid (SKc.out _ (Below.refl _ _).drew)
      have hq1 : q = match loggedS { s with marks := s.marks ++ [t] } s (77, t) with
          | (0, s1) => syncS s1
          | (e, s1) => (e, s1) := by rw [HQ.out]; unfold markStore; rw [if_neg ht]; rfl
      obtain ⟨lg, hlg⟩ : ∃ lg, lg = loggedS { s with marks := s.marks ++ [t] } s (77, t) := ⟨_, rfl⟩
      rw [← hlg] at hq1 HLG
      clear hlg HQ HS5 HK5 ht ht'
      obtain ⟨er, s6⟩ := lg
      have HQ := Lib.hid hq1
      clear hq1
      go_upto_region 6 with fail
      go_cut [5] (fun v5 wx => v5 = .int .i64 er ∧ ∃ m', StR wx base Sb s6 m' ∧ KeepS base m m' w wx ∧ Blk wx X 28 #[.pointer (some ⟨Sb, 0, none⟩)])
      case first =>
        go_region_held3 (fun wy => wy.cell? ⟨X, 0, none⟩ = some (.pointer (some ⟨Sb, 0, none⟩)))
          (first | exact S0.out | exact S7.out | exact SKc.out _ HB6.out)
          (first
            | (go_at_call 71; refine (HRE.out _).mono ?_; rintro en w6 ⟨⟨A6, c6, rfl, hy6, hc6⟩, hb6⟩; (have HY6 := Lib.hid hy6); (have HC6 := Lib.hid hc6); (have HB6 : Hid (Below wc.heap.size wc w6) := (Below.refl _ _).drew.trans hb6); clear hy6 hc6 hb6)
            | (go_at_call 70; refine (HLG.out _ _ _ HB6.out HY6.out HC6.out).mono ?_; rintro en w7 ⟨rfl, m7, h7, k7, x7⟩; (have H7 : Hid (∃ m', StR w7 base Sb s6 m' ∧ KeepS base m m' w w7 ∧ Blk w7 X 28 #[.pointer (some ⟨Sb, 0, none⟩)]) := ⟨m7, h7, k7, x7⟩); (have S7 := Lib.hid (x7.cell 0)); clear h7 k7 x7))
        all_goals
          go_wp2_with fail
          go_meet
          exact ⟨rfl, H7.out⟩
      case rest =>
        obtain ⟨rfl, m7, h7, k7, x7⟩ := hcut
        have H7 := Lib.hid h7
        have K7 := Lib.hid k7
        by_cases he : er = 0
        · subst he
          have hq2 : q = ((flushD s6.d).1, { s6 with d := (flushD s6.d).2 }) := HQ.out
          subst hq2
          have x0 : wc.cell? ⟨X, 0, none⟩ = some (.pointer (some ⟨Sb, 0, none⟩)) := x7.cell 0
          have x2 : wc.cell? ⟨Sb, 2, none⟩ = some (.pointer (some ⟨m7.Lb, 0, none⟩)) := h7.blk.cell 2
          have xl := x7.lt
          have sl := h7.blk.lt
          have HSY := Lib.hid (syncW_any h7.log h7.dsk)
          have hz := flushD_size s6.d
          clear h7 k7 x7 HLG HRE SKc S0
          go_wp2_with (go_at_call 73; refine HSY.out.mono ?_; rintro en w8 ⟨rfl, hd, hk⟩; (have HD := Lib.hid hd); (have HKK := Lib.hid hk); clear hd hk)
          go_ret
          have k5 := HKK.out.mono (Nat.le_refl _) (ts' := [121, 165, 167, 216, 137]) (by simp)
          exact ⟨rfl, m7, H7.out.logged k5 HD.out (H7.out.log.keeps HKK.out (by decide) (by decide) (by decide)) hz, K7.out.trans (KeepS.of k5 (by simp))⟩
        · have he' : ((er : Int) != 0) = true := by simp; omega
          have hq2 : q = (er, s6) := by
            rw [HQ.out]
            cases er with
            | zero => exact absurd rfl he
            | succ e => rfl
          subst hq2
          clear he h7 k7 x7 HLG HRE SKc S0
          go_wp2_with fail
          go_ret
          exact ⟨rfl, m7, H7.out, K7.out⟩
end Go.Proofs.YtmgmfnimaafkdaaGreatDoor
