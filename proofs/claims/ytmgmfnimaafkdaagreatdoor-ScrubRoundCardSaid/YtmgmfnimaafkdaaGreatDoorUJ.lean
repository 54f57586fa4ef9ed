/- A put undone. -/
import Derived.Test.YtmgmfnimaafkdaaGreatDoorXP
import Derived.Test.YtmgmfnimaafkdaaGreatDoorVX
import Derived.Test.YtmgmfnimaafkdaaGreatDoorUC
namespace Go.Proofs.YtmgmfnimaafkdaaGreatDoor
open Go.RowKit Go.Maps
set_option maxRecDepth 100000
theorem undoPut_any {w : World} {base Sb X Y Z lo N : Nat} {s : StV} {m : StM} {n : NameV} {x : SlotV} {a l : Nat} (h : StR w base Sb { s with slices := putS n x s.slices } m) (hn : wfN n) (hx : Blk w X 28 #[.pointer (some ⟨Sb, 0, none⟩)]) (hy : Blk w Y 73 #[.int .i64 n.1, .int .i64 n.2]) (hz : Blk w Z 140 #[.int .i64 a, .int .i64 l])
  (hnew : ∀ y, getL s.slices y = if y = n then none else getL (putS n x s.slices) y) (hs : SrtS s.slices) (hr : ∀ x ∈ s.slices, NumOK x ∧ x.2.len ≤ 1048576) (hinv : MapInv s.map lo N) (ha : a < 1099511627776) (hl : l < 1099511627776) :
  Calls Tryz.prog 110 #[.pointer (some ⟨X, 0, none⟩), .pointer (some ⟨Y, 0, none⟩), .pointer (some ⟨Z, 0, none⟩)] w fun e w' => e = .returned (.tuple #[]) ∧ StR w' base Sb { s with map := (giveM s.map a l).2 } m ∧ KeepS base m m w w' := by
 obtain ⟨w8, hrun, hs8, hk8, hkk8, htu⟩ := (h.below bR0.drew).striking n hn s.slices hnew hs hr
 obtain ⟨n1, n2⟩ := n
 replace hrun : (Builtin.delete_ #[125, 73] 0 #[.map (some m.Pb), .agg #[.int .i64 n1, .int .i64 n2]]).run Tryz.prog w.drew = .ok (.tuple #[]) w8 := hrun
 have S0 := hZ9 (show w.drew.cell? ⟨X, 0, none⟩ = some (.pointer (some ⟨Sb, 0, none⟩)) ∧ (w.drew.cell? ⟨Sb, 5, none⟩ = some (.map (some m.Pb)) ∧ (w.drew.cell? ⟨Y, 0, none⟩ = some (.int .i64 n1) ∧ w.drew.cell? ⟨Y, 1, none⟩ = some (.int .i64 n2))) from
  ⟨hx.drew.cell 0, h.blk.drew.cell 5, hy.drew.cell 0, hy.drew.cell 1⟩)
 have hx8 : Blk w8 X 28 #[.pointer (some ⟨Sb, 0, none⟩)] := hx.drew.keeps hkk8 (by decide)
 have hz8 : Blk w8 Z 140 #[.int .i64 a, .int .i64 l] := hz.drew.keeps hkk8 (by decide)
 have hy8 : Blk w8 Y 73 #[.int .i64 n1, .int .i64 n2] := hy.drew.keeps hkk8 (by decide)
 have S8 := hZ9 (show w8.cell? ⟨X, 0, none⟩ = some (.pointer (some ⟨Sb, 0, none⟩)) ∧ (w8.cell? ⟨Sb, 5, none⟩ = some (.map (some m.Pb)) ∧ (w8.cell? ⟨Y, 0, none⟩ = some (.int .i64 n1) ∧ w8.cell? ⟨Y, 1, none⟩ = some (.int .i64 n2))) from
  ⟨hx8.cell 0, hs8.blk.cell 5, hy8.cell 0, hy8.cell 1⟩)
 have S9 := hZ9 (show w8.drew.cell? ⟨X, 0, none⟩ = some (.pointer (some ⟨Sb, 0, none⟩)) ∧ (w8.drew.cell? ⟨Sb, 3, none⟩ = some (.pointer (some ⟨m.M, 0, none⟩)) ∧ (w8.drew.cell? ⟨Z, 0, none⟩ = some (.int .i64 a) ∧ w8.drew.cell? ⟨Z, 1, none⟩ = some (.int .i64 l))) from
  ⟨hx8.drew.cell 0, hs8.blk.drew.cell 3, hz8.drew.cell 0, hz8.drew.cell 1⟩)
 have hb8 := hs8.lt
 have hbw := h.lt
 have GV := hZ9 (Give_any (hs8.below bR0.drew).map hinv hb8 a l ha hl)
 have H8 := hZ9 (hs8.below bR0.drew)
 have K8 : Hid (KeepS base m m w w8.drew) := (KeepS.of_below (m := m) bR0.drew hbw).trans (hk8.trans (KeepS.of_below (m := m) bR0.drew hb8))
 have HX8 := hZ9 hx8.drew
 have HZ8 := hZ9 hz8.drew
 have xl := hx.lt
 have yl := hy.lt
 have zl := hz.lt
 have sl := h.blk.lt
 clear h hx hy hz hs8 hk8 hkk8 htu hx8 hz8 hy8
 go_enter Tryz.func110, Tryz.ntmps110
 go_upto_region 0 with fail
 go_region_held3 (fun wy => wy.cell? ⟨X, 0, none⟩ = some (.pointer (some ⟨Sb, 0, none⟩)) ∧ (wy.cell? ⟨Sb, 5, none⟩ = some (.map (some m.Pb)) ∧ (wy.cell? ⟨Y, 0, none⟩ = some (.int .i64 n1) ∧ wy.cell? ⟨Y, 1, none⟩ = some (.int .i64 n2))))
  (first | exact S0.out | exact S8.out)
  (fail)
 all_goals
  go_upto_region 1 with fail
  go_region_held3 (fun wy => wy.cell? ⟨X, 0, none⟩ = some (.pointer (some ⟨Sb, 0, none⟩)) ∧ (wy.cell? ⟨Sb, 3, none⟩ = some (.pointer (some ⟨m.M, 0, none⟩)) ∧ (wy.cell? ⟨Z, 0, none⟩ = some (.int .i64 a) ∧ wy.cell? ⟨Z, 1, none⟩ = some (.int .i64 l))))
   (first | exact S9.out | exact S10.out)
   (first
    | (go_at_call 108; refine GV.out.mono ?_; rintro en w9 ⟨rfl, hm9, hk9⟩; (have HM9 := hZ9 hm9); (have HK9 := hZ9 hk9); (have S10 := hZ9 (show w9.cell? ⟨X, 0, none⟩ = some (.pointer (some ⟨Sb, 0, none⟩)) ∧ (w9.cell? ⟨Sb, 3, none⟩ = some (.pointer (some ⟨m.M, 0, none⟩)) ∧ (w9.cell? ⟨Z, 0, none⟩ = some (.int .i64 a) ∧ w9.cell? ⟨Z, 1, none⟩ = some (.int .i64 l))) from ⟨(HX8.out.keeps hk9 (by decide)).cell 0, (H8.out.blk.keeps hk9 (by decide)).cell 3, (HZ8.out.keeps hk9 (by decide)).cell 0, (HZ8.out.keeps hk9 (by decide)).cell 1⟩)); clear hm9 hk9))
  all_goals
   go_wp2_with fail
   go_end0
   exact ⟨rfl, H8.out.mapped HK9.out HM9.out, K8.out.trans (KeepS.of HK9.out (by simp))⟩
end Go.Proofs.YtmgmfnimaafkdaaGreatDoor
