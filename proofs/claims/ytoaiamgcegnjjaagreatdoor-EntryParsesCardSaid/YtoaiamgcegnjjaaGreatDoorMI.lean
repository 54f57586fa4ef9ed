/- Sets of bytes as lists of spans: two lists of the fewest spans with the same bytes are one. No program in sight, no condition. The reference's way to the same sets of bytes: by all places at which a span begins or ends. No program in sight, no condition. -/
import Derived.KernelRfl
namespace Go.Proofs.YtoaiamgcegnjjaaGreatDoor

/-- is a place in one of the spans? -/
def memS (l : List (Int × Int)) (x : Int) : Prop := ∃ p ∈ l, p.1 ≤ x ∧ x < p.2
/-- the fewest spans, rising; all behind lo -/
def NormAt : Int → List (Int × Int) → Prop
  | _, [] => True
  | lo, p :: r => lo < p.1 ∧ p.1 < p.2 ∧ NormAt p.2 r
def Norm (l : List (Int × Int)) : Prop := NormAt (-1) l

theorem NormAt.mono {lo lo' : Int} {l : List (Int × Int)} (h : NormAt lo l) (hl : lo' ≤ lo) : NormAt lo' l := by
  cases l with
  | nil => trivial
  | cons p r => exact ⟨by have := h.1; omega, h.2.1, h.2.2⟩
theorem NormAt.above {lo : Int} {l : List (Int × Int)} (h : NormAt lo l) : ∀ p ∈ l, lo < p.1 ∧ p.1 < p.2 := by
  induction l generalizing lo with
  | nil => intro p hp; cases hp
  | cons q r ih =>
    intro p hp
    rcases List.mem_cons.1 hp with rfl | hp
    · exact ⟨h.1, h.2.1⟩
    · have := ih h.2.2 p hp
      have h1 := h.1
      have h2 := h.2.1
      exact ⟨by omega, this.2⟩
theorem NormAt.mem_above {lo x : Int} {l : List (Int × Int)} (h : NormAt lo l) (hx : memS l x) : lo < x := by
  obtain ⟨p, hp, h1, _⟩ := hx
  have := h.above p hp
  omega

theorem norm_unique : ∀ {lo lo' : Int} (l l' : List (Int × Int)), NormAt lo l → NormAt lo' l' → (∀ x, memS l x ↔ memS l' x) → l = l'
  | _, _, [], [], _, _, _ => rfl
  | _, _, [], p :: r, _, h', he => by
    have : memS (p :: r) p.1 := ⟨p, by simp, by omega, h'.2.1⟩
    obtain ⟨q, hq, _⟩ := (he _).2 this
    cases hq
  | _, _, p :: r, [], h, _, he => by
    have : memS (p :: r) p.1 := ⟨p, by simp, by omega, h.2.1⟩
    obtain ⟨q, hq, _⟩ := (he _).1 this
    cases hq
  | _, _, p :: r, q :: s, h, h', he => by
    have hp : memS (p :: r) p.1 := ⟨p, by simp, by omega, h.2.1⟩
    have hq : memS (q :: s) q.1 := ⟨q, by simp, by omega, h'.2.1⟩
    have low : ∀ {lo : Int} {a : Int × Int} {t : List (Int × Int)} {x : Int}, NormAt lo (a :: t) → memS (a :: t) x → a.1 ≤ x := fun {lo a t x} hn hx => by
      obtain ⟨b, hb, h1, _⟩ := hx
      rcases List.mem_cons.1 hb with rfl | hb
      · exact h1
      · have := hn.2.2.above b hb
        have := hn.2.1
        omega
    have e1 : p.1 = q.1 := by
      have a := low h' ((he _).1 hp)
      have b := low h ((he _).2 hq)
      omega
    have gap : ∀ {lo lo' : Int} {a b : Int × Int} {t u : List (Int × Int)}, NormAt lo (a :: t) → NormAt lo' (b :: u) → a.1 = b.1 → (∀ x, memS (b :: u) x → memS (a :: t) x) → ¬ a.2 < b.2 := fun {lo lo' a b t u} hn hn' hab hs hlt => by
      have : memS (b :: u) a.2 := ⟨b, by simp, by have := hn.2.1; omega, hlt⟩
      obtain ⟨c, hc, h1, h2⟩ := hs _ this
      rcases List.mem_cons.1 hc with rfl | hc
      · omega
      · have := hn.2.2.above c hc
        omega
    have e2 : p.2 = q.2 := by
      have a := gap h h' e1 (fun x => (he x).2)
      have b := gap h' h e1.symm (fun x => (he x).1)
      omega
    have e : p = q := Prod.ext e1 e2
    subst e
    have tail : ∀ x, memS r x ↔ memS s x := fun x => by
      have cut : ∀ {t : List (Int × Int)}, NormAt p.2 t → (memS t x ↔ memS (p :: t) x ∧ p.2 ≤ x) := fun {t} hn => by
        constructor
        · intro hx
          have := hn.mem_above hx
          obtain ⟨c, hc, h1, h2⟩ := hx
          exact ⟨⟨c, by simp [hc], h1, h2⟩, by omega⟩
        · rintro ⟨⟨c, hc, h1, h2⟩, hle⟩
          rcases List.mem_cons.1 hc with rfl | hc
          · omega
          · exact ⟨c, hc, h1, h2⟩
      rw [cut h.2.2, cut h'.2.2, he x]
    rw [norm_unique r s h.2.2 h'.2.2 tail]

/-! ### putting one behind the last -/
/-- a span put behind others: joined to the last where it touches -/
def gstep (out : List (Int × Int)) (x : Int × Int) : List (Int × Int) :=
  match out.getLast? with
  | some y => if x.1 ≤ y.2 then out.dropLast ++ [(y.1, max y.2 x.2)] else out ++ [x]
  | none => out ++ [x]
def gatherS (l : List (Int × Int)) : List (Int × Int) := l.foldl gstep []

/-- NormAt, seen from the end -/
theorem norm_snoc {lo : Int} {l : List (Int × Int)} {x : Int × Int} : NormAt lo (l ++ [x]) ↔ NormAt lo l ∧ x.1 < x.2 ∧ (∀ y, l.getLast? = some y → y.2 < x.1) ∧ (l = [] → lo < x.1) := by
  induction l generalizing lo with
  | nil => simp [NormAt]; constructor <;> intro h <;> simp_all
  | cons a r ih =>
    simp only [List.cons_append, NormAt, ih]
    constructor
    · rintro ⟨h1, h2, h3, h4, h5, h6⟩
      refine ⟨⟨h1, h2, h3⟩, h4, fun y hy => ?_, fun h => by cases h⟩
      cases r with
      | nil => simp at hy; subst hy; exact h6 rfl
      | cons b s => exact h5 y (by simpa using hy)
    · rintro ⟨⟨h1, h2, h3⟩, h4, h5, _⟩
      refine ⟨h1, h2, h3, h4, fun y hy => ?_, fun h => ?_⟩
      · cases r with
        | nil => cases hy
        | cons b s => exact h5 y (by simpa using hy)
      · subst h; exact h5 a (by simp)
theorem memS_append {a b : List (Int × Int)} {x : Int} : memS (a ++ b) x ↔ memS a x ∨ memS b x := by
  constructor
  · rintro ⟨p, hp, h⟩
    rcases List.mem_append.1 hp with hp | hp
    · exact .inl ⟨p, hp, h⟩
    · exact .inr ⟨p, hp, h⟩
  · rintro (⟨p, hp, h⟩ | ⟨p, hp, h⟩)
    · exact ⟨p, List.mem_append.2 (.inl hp), h⟩
    · exact ⟨p, List.mem_append.2 (.inr hp), h⟩
theorem memS_one {p : Int × Int} {x : Int} : memS [p] x ↔ p.1 ≤ x ∧ x < p.2 := by simp [memS]
theorem memS_nil {x : Int} : ¬ memS [] x := by simp [memS]
theorem last_split {l : List (Int × Int)} {y : Int × Int} (h : l.getLast? = some y) : l = l.dropLast ++ [y] := by
  obtain ⟨ys, rfl⟩ := List.getLast?_eq_some_iff.1 h
  simp

theorem gstep_norm {out : List (Int × Int)} {x : Int × Int} (h : Norm out) (hx : x.1 < x.2) (h0 : 0 ≤ x.1) (hr : ∀ y, out.getLast? = some y → y.1 ≤ x.1) : Norm (gstep out x) ∧ (∀ z, memS (gstep out x) z ↔ memS out z ∨ memS [x] z) ∧ (∀ y, (gstep out x).getLast? = some y → y.1 ≤ x.1) := by
  unfold gstep
  cases hl : out.getLast? with
  | none =>
    have : out = [] := List.getLast?_eq_none_iff.1 hl
    subst this
    exact ⟨⟨by show (-1 : Int) < x.1; omega, hx, trivial⟩, fun z => by simp [memS_nil], fun y hy => by simp at hy; subst hy; omega⟩
  | some y =>
    have hs := last_split hl
    have hyx := hr y hl
    simp only
    have hn := h
    unfold Norm at hn
    rw [hs] at hn
    obtain ⟨n1, n2, n3, n4⟩ := norm_snoc.1 hn
    by_cases ht : x.1 ≤ y.2
    · rw [if_pos ht]
      refine ⟨norm_snoc.2 ⟨n1, by simp only; omega, n3, n4⟩, fun z => ?_, fun u hu => by simp at hu; subst hu; exact hyx⟩
      rw [memS_append, memS_one]
      conv => rhs; rw [hs, memS_append, memS_one, memS_one]
      simp only
      constructor
      · rintro (h | h)
        · exact .inl (.inl h)
        · by_cases hz : z < y.2
          · exact .inl (.inr ⟨h.1, hz⟩)
          · exact .inr ⟨by omega, by omega⟩
      · rintro ((h | h) | h)
        · exact .inl h
        · exact .inr ⟨h.1, by omega⟩
        · exact .inr ⟨by omega, by omega⟩
    · rw [if_neg ht]
      refine ⟨norm_snoc.2 ⟨h, hx, fun u hu => ?_, fun he => by rw [he] at hl; cases hl⟩, fun z => memS_append, fun u hu => by simp at hu; subst hu; omega⟩
      rw [hl] at hu
      injection hu with hu
      subst hu
      omega

theorem gather_norm : ∀ (l out : List (Int × Int)), Norm out → (∀ p ∈ l, p.1 < p.2 ∧ 0 ≤ p.1) → (∀ y, out.getLast? = some y → ∀ p ∈ l, y.1 ≤ p.1) → l.Pairwise (fun a b => a.1 ≤ b.1) →
    Norm (l.foldl gstep out) ∧ ∀ z, memS (l.foldl gstep out) z ↔ memS out z ∨ memS l z
  | [], out, h, _, _, _ => ⟨h, fun z => by simp [memS_nil]⟩
  | x :: r, out, h, hp, hl, hs => by
    obtain ⟨hx, h0⟩ := hp x (by simp)
    obtain ⟨g1, g2, g3⟩ := gstep_norm h hx h0 (fun y hy => hl y hy x (by simp))
    rw [List.pairwise_cons] at hs
    obtain ⟨i1, i2⟩ := gather_norm r (gstep out x) g1 (fun p hq => hp p (by simp [hq])) (fun y hy p hq => by have := g3 y hy; have := hs.1 p hq; omega) hs.2
    refine ⟨i1, fun z => ?_⟩
    rw [List.foldl_cons, i2 z, g2 z, or_assoc, show x :: r = [x] ++ r from rfl, memS_append]

/-! ### Or, with one span -/
def mergeS : List (Int × Int) → List (Int × Int) → List (Int × Int)
  | [], t => t
  | l, [] => l
  | a :: l, b :: t => if a.1 ≤ b.1 then a :: mergeS l (b :: t) else b :: mergeS (a :: l) t
theorem mergeS_mem (l t : List (Int × Int)) (p : Int × Int) : p ∈ mergeS l t ↔ p ∈ l ∨ p ∈ t := by
  induction l generalizing t with
  | nil => simp [mergeS]
  | cons a l ih =>
    induction t with
    | nil => simp [mergeS]
    | cons b t ih2 =>
      unfold mergeS
      split
      · simp only [List.mem_cons, ih]
        constructor
        · rintro (h | h | h)
          · exact .inl (.inl h)
          · exact .inl (.inr h)
          · exact .inr h
        · rintro ((h | h) | h)
          · exact .inl h
          · exact .inr (.inl h)
          · exact .inr (.inr h)
      · simp only [List.mem_cons, ih2]
        constructor
        · rintro (h | h | h)
          · exact .inr (.inl h)
          · exact .inl h
          · exact .inr (.inr h)
        · rintro (h | h | h)
          · exact .inr (.inl h)
          · exact .inl h
          · exact .inr (.inr h)
theorem mergeS_sorted (l t : List (Int × Int)) (hl : l.Pairwise (fun a b => a.1 ≤ b.1)) (ht : t.Pairwise (fun a b => a.1 ≤ b.1)) : (mergeS l t).Pairwise (fun a b => a.1 ≤ b.1) := by
  induction l generalizing t with
  | nil => simpa [mergeS] using ht
  | cons a l ih =>
    induction t with
    | nil => simpa [mergeS] using hl
    | cons b t ih2 =>
      unfold mergeS
      split
      · rename_i hab
        rw [List.pairwise_cons] at hl ⊢
        refine ⟨fun p hp => ?_, ih _ hl.2 ht⟩
        rcases (mergeS_mem _ _ _).1 hp with hp | hp
        · exact hl.1 p hp
        · rcases List.mem_cons.1 hp with rfl | hp
          · exact hab
          · have := (List.pairwise_cons.1 ht).1 p hp
            omega
      · rename_i hab
        rw [List.pairwise_cons]
        refine ⟨fun p hp => ?_, ih2 (List.pairwise_cons.1 ht).2⟩
        rcases (mergeS_mem _ _ _).1 hp with hp | hp
        · rcases List.mem_cons.1 hp with rfl | hp
          · omega
          · have := (List.pairwise_cons.1 hl).1 p hp
            omega
        · exact (List.pairwise_cons.1 ht).1 p hp
theorem norm_sorted {lo : Int} {l : List (Int × Int)} (h : NormAt lo l) : l.Pairwise (fun a b => a.1 ≤ b.1) := by
  induction l generalizing lo with
  | nil => exact List.Pairwise.nil
  | cons a r ih =>
    rw [List.pairwise_cons]
    refine ⟨fun p hp => ?_, ih h.2.2⟩
    have := h.2.2.above p hp
    have := h.2.1
    omega

def ofS (s : Int × Int) : List (Int × Int) := if s.1 < s.2 then [s] else []
def orS (l : List (Int × Int)) (s : Int × Int) : List (Int × Int) := gatherS (mergeS l (ofS s))
theorem orS_norm {l : List (Int × Int)} {s : Int × Int} (h : Norm l) (h0 : 0 ≤ s.1) : Norm (orS l s) ∧ ∀ z, memS (orS l s) z ↔ memS l z ∨ (s.1 ≤ z ∧ z < s.2) := by
  have hof : (ofS s).Pairwise (fun a b => a.1 ≤ b.1) := by unfold ofS; split <;> simp
  obtain ⟨g1, g2⟩ := gather_norm (mergeS l (ofS s)) [] trivial (fun p hp => by
    rcases (mergeS_mem _ _ _).1 hp with hp | hp
    · have := NormAt.above h p hp
      omega
    · unfold ofS at hp
      split at hp
      · simp at hp; subst hp; omega
      · cases hp) (fun y hy => by cases hy) (mergeS_sorted _ _ (norm_sorted h) hof)
  refine ⟨g1, fun z => ?_⟩
  show memS (gatherS _) z ↔ _
  unfold gatherS
  rw [g2 z]
  constructor
  · rintro (h | ⟨p, hp, hz⟩)
    · exact absurd h memS_nil
    · rcases (mergeS_mem _ _ _).1 hp with hp | hp
      · exact .inl ⟨p, hp, hz⟩
      · unfold ofS at hp
        split at hp
        · simp at hp; subst hp; exact .inr hz
        · cases hp
  · rintro (⟨p, hp, hz⟩ | hz)
    · exact .inr ⟨p, (mergeS_mem _ _ _).2 (.inl hp), hz⟩
    · refine .inr ⟨s, (mergeS_mem _ _ _).2 (.inr ?_), hz⟩
      unfold ofS
      rw [if_pos (by omega)]
      simp

/-! ### Less, with one span -/
def cutS (s x : Int × Int) : List (Int × Int) :=
  if s.2 ≤ x.1 ∨ x.2 ≤ s.1 then [x] else (if x.1 < s.1 then [(x.1, s.1)] else []) ++ (if s.2 < x.2 then [(s.2, x.2)] else [])
def lessS (l : List (Int × Int)) (s : Int × Int) : List (Int × Int) := if s.1 < s.2 then l.flatMap (cutS s) else l
theorem cut_norm {s : Int × Int} (hs : s.1 < s.2) : ∀ {lo : Int} {l : List (Int × Int)}, NormAt lo l → NormAt lo (l.flatMap (cutS s)) ∧ ∀ z, memS (l.flatMap (cutS s)) z ↔ memS l z ∧ ¬ (s.1 ≤ z ∧ z < s.2)
  | _, [], _ => ⟨trivial, fun z => by simp [memS_nil]⟩
  | lo, x :: r, h => by
    obtain ⟨h1, h2, h3⟩ := h
    obtain ⟨i1, i2⟩ := cut_norm hs h3
    have e : (x :: r).flatMap (cutS s) = cutS s x ++ r.flatMap (cutS s) := by simp
    have mr : ∀ z, memS (x :: r) z ↔ (x.1 ≤ z ∧ z < x.2) ∨ memS r z := fun z => by
      rw [show x :: r = [x] ++ r from rfl, memS_append, memS_one]
    rw [e]
    constructor
    · unfold cutS
      split
      · exact ⟨h1, h2, i1⟩
      · split <;> split
        · exact ⟨h1, by simp only; omega, by simp only; omega, by simp only; omega, i1⟩
        · exact ⟨h1, by simp only; omega, i1.mono (by simp only; omega)⟩
        · exact ⟨by simp only; omega, by simp only; omega, i1⟩
        · exact i1.mono (by omega)
    · intro z
      rw [memS_append, i2 z, mr z]
      have hc : memS (cutS s x) z ↔ (x.1 ≤ z ∧ z < x.2) ∧ ¬ (s.1 ≤ z ∧ z < s.2) := by
        unfold cutS
        split
        · rw [memS_one]; omega
        · rw [memS_append]
          split <;> split <;> simp only [memS_one, memS_nil, or_false, false_or] <;> (constructor <;> intro hh <;> first | omega | exact absurd hh (by simp) | (exact ⟨⟨by omega, by omega⟩, by omega⟩))
      rw [hc]
      constructor
      · rintro (h | h)
        · exact ⟨.inl h.1, h.2⟩
        · exact ⟨.inr h.1, h.2⟩
      · rintro ⟨h | h, hn⟩
        · exact .inl ⟨h, hn⟩
        · exact .inr ⟨h, hn⟩
theorem lessS_norm {l : List (Int × Int)} {s : Int × Int} (h : Norm l) : Norm (lessS l s) ∧ ∀ z, memS (lessS l s) z ↔ memS l z ∧ ¬ (s.1 ≤ z ∧ z < s.2) := by
  unfold lessS
  split
  · rename_i hs
    exact cut_norm hs h
  · exact ⟨h, fun z => ⟨fun hz => ⟨hz, by omega⟩, fun hz => hz.1⟩⟩

end Go.Proofs.YtoaiamgcegnjjaaGreatDoor
namespace Go.Proofs.YtoaiamgcegnjjaaGreatDoor

def insR : List Int → Int → List Int
  | [], n => [n]
  | a :: r, n => if n ≤ a then (if n < a then n :: a :: r else a :: r) else a :: insR r n
theorem insR_mem (l : List Int) (n p : Int) : p ∈ insR l n ↔ p ∈ l ∨ p = n := by
  induction l with
  | nil => simp [insR]
  | cons a r ih =>
    unfold insR
    split
    · split
      · simp only [List.mem_cons]
        constructor
        · rintro (h | h | h)
          · exact .inr h
          · exact .inl (.inl h)
          · exact .inl (.inr h)
        · rintro ((h | h) | h)
          · exact .inr (.inl h)
          · exact .inr (.inr h)
          · exact .inl h
      · have : a = n := by omega
        subst this
        simp only [List.mem_cons]
        constructor
        · exact fun h => .inl h
        · rintro (h | h)
          · exact h
          · exact .inl h
    · simp only [List.mem_cons, ih]
      constructor
      · rintro (h | h | h)
        · exact .inl (.inl h)
        · exact .inl (.inr h)
        · exact .inr h
      · rintro ((h | h) | h)
        · exact .inl h
        · exact .inr (.inl h)
        · exact .inr (.inr h)
theorem insR_sorted {l : List Int} (n : Int) (h : l.Pairwise (· < ·)) : (insR l n).Pairwise (· < ·) := by
  induction l with
  | nil => simp [insR]
  | cons a r ih =>
    obtain ⟨h1, h2⟩ := List.pairwise_cons.1 h
    unfold insR
    split
    · split
      · rename_i hlt
        rw [List.pairwise_cons]
        refine ⟨fun p hp => ?_, h⟩
        rcases List.mem_cons.1 hp with rfl | hp
        · exact hlt
        · have := h1 p hp
          omega
      · exact h
    · rename_i hn
      rw [List.pairwise_cons]
      refine ⟨fun p hp => ?_, ih h2⟩
      rcases (insR_mem _ _ _).1 hp with hp | hp
      · exact h1 p hp
      · omega

def rightS (p : Int × Int) : Bool := decide (0 ≤ p.1) && decide (p.1 ≤ p.2) && decide (p.2 ≤ 4611686018427387904)
theorem rightS_iff {p : Int × Int} : rightS p = true ↔ 0 ≤ p.1 ∧ p.1 ≤ p.2 ∧ p.2 ≤ 4611686018427387904 := by
  unfold rightS
  simp only [Bool.and_eq_true, decide_eq_true_eq]
  omega
def estep (out : List Int) (p : Int × Int) : List Int := if rightS p then insR (insR out p.1) p.2 else out
def endsR (l : List (Int × Int)) : List Int := l.foldl estep []
theorem endsR_law : ∀ (l : List (Int × Int)) (out : List Int), out.Pairwise (· < ·) → (l.foldl estep out).Pairwise (· < ·) ∧ ∀ x, x ∈ l.foldl estep out ↔ x ∈ out ∨ ∃ p ∈ l, rightS p = true ∧ (x = p.1 ∨ x = p.2)
  | [], out, h => ⟨h, fun x => by simp⟩
  | p :: r, out, h => by
    have hs : (estep out p).Pairwise (· < ·) := by
      unfold estep
      split
      · exact insR_sorted _ (insR_sorted _ h)
      · exact h
    have hm : ∀ x, x ∈ estep out p ↔ x ∈ out ∨ (rightS p = true ∧ (x = p.1 ∨ x = p.2)) := fun x => by
      unfold estep
      split
      · rename_i hr
        rw [insR_mem, insR_mem, or_assoc]
        simp [hr]
      · rename_i hr
        simp [hr]
    obtain ⟨i1, i2⟩ := endsR_law r (estep out p) hs
    refine ⟨i1, fun x => ?_⟩
    rw [List.foldl_cons, i2 x, hm x]
    constructor
    · rintro ((h | h) | ⟨q, hq, h⟩)
      · exact .inl h
      · exact .inr ⟨p, by simp, h⟩
      · exact .inr ⟨q, by simp [hq], h⟩
    · rintro (h | ⟨q, hq, h⟩)
      · exact .inl (.inl h)
      · rcases List.mem_cons.1 hq with rfl | hq
        · exact .inl (.inr h)
        · exact .inr ⟨q, hq, h⟩

def inR (l : List (Int × Int)) (x : Int) : Bool := l.any fun p => rightS p && decide (p.1 ≤ x) && decide (x < p.2)
theorem inR_iff {l : List (Int × Int)} {x : Int} : inR l x = true ↔ ∃ p ∈ l, rightS p = true ∧ p.1 ≤ x ∧ x < p.2 := by
  unfold inR
  rw [List.any_eq_true]
  simp only [Bool.and_eq_true, decide_eq_true_eq, and_assoc]

def pairsR : List Int → List (Int × Int)
  | a :: b :: r => (a, b) :: pairsR (b :: r)
  | _ => []
theorem pairsR_len : ∀ e : List Int, (pairsR e).length = e.length - 1
  | [] => rfl
  | [_] => rfl
  | _ :: b :: r => by simp [pairsR, pairsR_len (b :: r)]
theorem pairsR_get : ∀ (e : List Int) (i : Nat) (h : i + 1 < e.length) (h' : i < (pairsR e).length), (pairsR e)[i] = (e[i], e[i + 1])
  | [], i, h, _ => by simp at h
  | [_], i, h, _ => by simp at h
  | _ :: _ :: _, 0, _, _ => rfl
  | _ :: b :: r, i + 1, h, h' => by
    have := pairsR_get (b :: r) i (by simpa using h) (by simpa [pairsR] using h')
    simpa [pairsR] using this

def ostep (P : Int → Bool) (out : List (Int × Int)) (p : Int × Int) : List (Int × Int) :=
  if P p.1 then (match out.getLast? with
    | some y => if y.2 = p.1 then out.dropLast ++ [(y.1, p.2)] else out ++ [p]
    | none => out ++ [p]) else out
theorem ostep_norm {P : Int → Bool} {out : List (Int × Int)} {p : Int × Int} (h : Norm out) (hp : p.1 < p.2) (h0 : 0 ≤ p.1) (hr : ∀ y, out.getLast? = some y → y.2 ≤ p.1) :
    Norm (ostep P out p) ∧ (∀ z, memS (ostep P out p) z ↔ memS out z ∨ (P p.1 = true ∧ p.1 ≤ z ∧ z < p.2)) ∧ (∀ y, (ostep P out p).getLast? = some y → y.2 ≤ p.2) := by
  unfold ostep
  by_cases hP : P p.1 = true
  · rw [if_pos hP]
    cases hl : out.getLast? with
    | none =>
      have : out = [] := List.getLast?_eq_none_iff.1 hl
      subst this
      exact ⟨⟨by show (-1 : Int) < p.1; omega, hp, trivial⟩, fun z => by simp [memS_nil, memS_one, hP], fun y hy => by simp at hy; subst hy; omega⟩
    | some y =>
      have hs := last_split hl
      have hyp := hr y hl
      simp only
      have hn := h
      unfold Norm at hn
      rw [hs] at hn
      obtain ⟨n1, n2, n3, n4⟩ := norm_snoc.1 hn
      by_cases he : y.2 = p.1
      · rw [if_pos he]
        refine ⟨norm_snoc.2 ⟨n1, by simp only; omega, n3, n4⟩, fun z => ?_, fun u hu => by simp at hu; subst hu; simp⟩
        rw [memS_append, memS_one]
        conv => rhs; rw [hs, memS_append, memS_one]
        simp only [hP, true_and]
        constructor
        · rintro (h | h)
          · exact .inl (.inl h)
          · by_cases hz : z < y.2
            · exact .inl (.inr ⟨h.1, hz⟩)
            · exact .inr ⟨by omega, by omega⟩
        · rintro ((h | h) | h)
          · exact .inl h
          · exact .inr ⟨h.1, by omega⟩
          · exact .inr ⟨by omega, by omega⟩
      · rw [if_neg he]
        refine ⟨norm_snoc.2 ⟨h, hp, fun u hu => ?_, fun hh => by rw [hh] at hl; cases hl⟩, fun z => by rw [memS_append, memS_one]; simp [hP], fun u hu => by simp at hu; subst hu; simp⟩
        rw [hl] at hu
        injection hu with hu
        subst hu
        omega
  · rw [if_neg hP]
    exact ⟨h, fun z => by simp [hP], fun y hy => by have := hr y hy; omega⟩

theorem fold_norm (P : Int → Bool) : ∀ (e : List Int) (out : List (Int × Int)), e.Pairwise (· < ·) → (∀ x ∈ e, 0 ≤ x) → Norm out → (∀ y, out.getLast? = some y → ∀ a, e.head? = some a → y.2 ≤ a) →
    Norm ((pairsR e).foldl (ostep P) out) ∧ ∀ z, memS ((pairsR e).foldl (ostep P) out) z ↔ memS out z ∨ ∃ p ∈ pairsR e, P p.1 = true ∧ p.1 ≤ z ∧ z < p.2
  | [], out, _, _, h, _ => ⟨h, fun z => by simp [pairsR]⟩
  | [_], out, _, _, h, _ => ⟨h, fun z => by simp [pairsR]⟩
  | a :: b :: r, out, hs, h0, h, hl => by
    obtain ⟨s1, s2⟩ := List.pairwise_cons.1 hs
    have hab : a < b := s1 b (by simp)
    obtain ⟨o1, o2, o3⟩ := ostep_norm (P := P) (p := (a, b)) h hab (h0 a (by simp)) (fun y hy => hl y hy a rfl)
    obtain ⟨i1, i2⟩ := fold_norm P (b :: r) (ostep P out (a, b)) s2 (fun x hx => h0 x (by simp at hx ⊢; exact .inr hx)) o1 (fun y hy c hc => by simp at hc; subst hc; exact o3 y hy)
    refine ⟨i1, fun z => ?_⟩
    show memS ((pairsR (b :: r)).foldl (ostep P) (ostep P out (a, b))) z ↔ _
    rw [i2 z, o2 z]
    simp only [pairsR, List.mem_cons]
    constructor
    · rintro ((h | h) | ⟨q, hq, h⟩)
      · exact .inl h
      · exact .inr ⟨(a, b), .inl rfl, h⟩
      · exact .inr ⟨q, .inr hq, h⟩
    · rintro (h | ⟨q, rfl | hq, h⟩)
      · exact .inl (.inl h)
      · exact .inl (.inr h)
      · exact .inr ⟨q, hq, h⟩

/-- between the first and the last place each place lies between two neighbours -/
theorem pairs_cover : ∀ (e : List Int) (z lo hi : Int), lo ∈ e → hi ∈ e → e.Pairwise (· < ·) → lo ≤ z → z < hi → ∃ p ∈ pairsR e, p.1 ≤ z ∧ z < p.2
  | [], _, _, _, h, _, _, _, _ => by cases h
  | [a], z, lo, hi, h1, h2, _, h3, h4 => by
    simp at h1 h2
    omega
  | a :: b :: r, z, lo, hi, h1, h2, hs, h3, h4 => by
    obtain ⟨s1, s2⟩ := List.pairwise_cons.1 hs
    by_cases hz : z < b
    · refine ⟨(a, b), by simp [pairsR], ?_, hz⟩
      rcases List.mem_cons.1 h1 with rfl | h1
      · exact h3
      · have : b ≤ lo := by
          rcases List.mem_cons.1 h1 with rfl | h1
          · omega
          · have := (List.pairwise_cons.1 s2).1 lo h1
            omega
        omega
    · have h2' : hi ∈ b :: r := by
        rcases List.mem_cons.1 h2 with rfl | h2
        · have := s1 b (by simp)
          omega
        · exact h2
      obtain ⟨p, hp, h⟩ := pairs_cover (b :: r) z b hi (by simp) h2' s2 (by omega) h4
      exact ⟨p, by simp [pairsR, hp], h⟩
/-- no place stands between two neighbours -/
theorem pairs_between : ∀ (e : List Int), e.Pairwise (· < ·) → ∀ p ∈ pairsR e, p.1 ∈ e ∧ p.2 ∈ e ∧ ∀ x ∈ e, ¬ (p.1 < x ∧ x < p.2)
  | [], _, p, hp => by cases hp
  | [_], _, p, hp => by cases hp
  | a :: b :: r, hs, p, hp => by
    obtain ⟨s1, s2⟩ := List.pairwise_cons.1 hs
    simp only [pairsR, List.mem_cons] at hp
    rcases hp with rfl | hp
    · refine ⟨by simp, by simp, fun x hx => ?_⟩
      rcases List.mem_cons.1 hx with rfl | hx
      · simp
      · rcases List.mem_cons.1 hx with rfl | hx
        · simp
        · have := (List.pairwise_cons.1 s2).1 x hx
          simp only
          omega
    · obtain ⟨i1, i2, i3⟩ := pairs_between (b :: r) s2 p hp
      refine ⟨List.mem_cons_of_mem _ i1, List.mem_cons_of_mem _ i2, fun x hx => ?_⟩
      rcases List.mem_cons.1 hx with rfl | hx
      · have := s1 p.1 i1
        omega
      · exact i3 x hx

/-- what an operation says: 1 or, 3 less -/
def opR (op : Int) (x y : Bool) : Bool := (op == 1 && (x || y)) || (op == 2 && x && y) || (op == 3 && x && !y)
def ofR (a b : List (Int × Int)) (op : Int) : List (Int × Int) := (pairsR (endsR (a ++ b))).foldl (ostep fun z => opR op (inR a z) (inR b z)) []

def AllRight (l : List (Int × Int)) : Prop := ∀ p ∈ l, rightS p = true
theorem inR_right {l : List (Int × Int)} (h : AllRight l) (x : Int) : inR l x = true ↔ memS l x := by
  rw [inR_iff]
  constructor
  · rintro ⟨p, hp, _, h⟩; exact ⟨p, hp, h⟩
  · rintro ⟨p, hp, h'⟩; exact ⟨p, hp, h p hp, h'⟩

theorem ofR_law {a b : List (Int × Int)} {op : Int} (ha : AllRight a) (hb : AllRight b) (hop : opR op false false = false) :
    Norm (ofR a b op) ∧ ∀ z, memS (ofR a b op) z ↔ opR op (inR a z) (inR b z) = true := by
  obtain ⟨e1, e2⟩ := endsR_law (a ++ b) [] List.Pairwise.nil
  have hall : AllRight (a ++ b) := fun p hp => by
    rcases List.mem_append.1 hp with hp | hp
    · exact ha p hp
    · exact hb p hp
  have e0 : ∀ x ∈ endsR (a ++ b), 0 ≤ x := fun x hx => by
    rcases (e2 x).1 hx with h | ⟨p, _, hr, h⟩
    · cases h
    · have := rightS_iff.1 hr
      omega
  obtain ⟨n1, n2⟩ := fold_norm (fun z => opR op (inR a z) (inR b z)) (endsR (a ++ b)) [] e1 e0 trivial (fun y hy => by cases hy)
  refine ⟨n1, fun z => ?_⟩
  have ends : ∀ p ∈ a ++ b, p.1 ∈ endsR (a ++ b) ∧ p.2 ∈ endsR (a ++ b) := fun p hp => ⟨(e2 _).2 (.inr ⟨p, hp, hall p hp, .inl rfl⟩), (e2 _).2 (.inr ⟨p, hp, hall p hp, .inr rfl⟩)⟩
  have const : ∀ (l : List (Int × Int)), (∀ p ∈ l, p ∈ a ++ b) → ∀ q ∈ pairsR (endsR (a ++ b)), q.1 ≤ z → z < q.2 → inR l q.1 = inR l z := fun l hl q hq h1 h2 => by
    obtain ⟨_, _, hno⟩ := pairs_between _ e1 q hq
    rw [Bool.eq_iff_iff, inR_iff, inR_iff]
    constructor
    · rintro ⟨p, hp, hr, h3, h4⟩
      have := hno p.2 (ends p (hl p hp)).2
      exact ⟨p, hp, hr, by omega, by omega⟩
    · rintro ⟨p, hp, hr, h3, h4⟩
      have := hno p.1 (ends p (hl p hp)).1
      exact ⟨p, hp, hr, by omega, by omega⟩
  show memS ((pairsR _).foldl _ []) z ↔ _
  rw [n2 z]
  constructor
  · rintro (h | ⟨q, hq, hP, h1, h2⟩)
    · exact absurd h memS_nil
    · rw [const a (fun p hp => List.mem_append.2 (.inl hp)) q hq h1 h2, const b (fun p hp => List.mem_append.2 (.inr hp)) q hq h1 h2] at hP
      exact hP
  · intro hP
    have hin : inR a z = true ∨ inR b z = true := by
      cases ea : inR a z <;> cases eb : inR b z
      · rw [ea, eb, hop] at hP; cases hP
      · exact .inr rfl
      · exact .inl rfl
      · exact .inl rfl
    have : ∃ p ∈ a ++ b, p.1 ≤ z ∧ z < p.2 := by
      rcases hin with h | h
      · obtain ⟨p, hp, _, h⟩ := inR_iff.1 h
        exact ⟨p, List.mem_append.2 (.inl hp), h⟩
      · obtain ⟨p, hp, _, h⟩ := inR_iff.1 h
        exact ⟨p, List.mem_append.2 (.inr hp), h⟩
    obtain ⟨p, hp, h1, h2⟩ := this
    obtain ⟨q, hq, h3, h4⟩ := pairs_cover (endsR (a ++ b)) z p.1 p.2 (ends p hp).1 (ends p hp).2 e1 h1 h2
    refine .inr ⟨q, hq, ?_, h3, h4⟩
    rw [const a (fun p hp => List.mem_append.2 (.inl hp)) q hq h3 h4, const b (fun p hp => List.mem_append.2 (.inr hp)) q hq h3 h4]
    exact hP

/-- the bytes that a version has: the fewest spans, all right -/
def Good (l : List (Int × Int)) : Prop := Norm l ∧ AllRight l
theorem right_of_mem {l : List (Int × Int)} (h : Norm l) (hm : ∀ z, memS l z → z < 4611686018427387904) : AllRight l := fun p hp => by
  have := NormAt.above h p hp
  have hz : memS l (p.2 - 1) := ⟨p, hp, by omega, by omega⟩
  have := hm _ hz
  exact rightS_iff.2 (by omega)
theorem good_lt {l : List (Int × Int)} (h : Good l) {z : Int} (hz : memS l z) : z < 4611686018427387904 := by
  obtain ⟨p, hp, h1, h2⟩ := hz
  have := rightS_iff.1 (h.2 p hp)
  omega

theorem orS_eq {l : List (Int × Int)} {s : Int × Int} (h : Good l) (hs : rightS s = true) : orS l s = ofR l [s] 1 ∧ Good (orS l s) := by
  have hr := rightS_iff.1 hs
  obtain ⟨n1, n2⟩ := orS_norm h.1 hr.1 (s := s)
  have hb : AllRight [s] := fun p hp => by simp at hp; subst hp; exact hs
  obtain ⟨m1, m2⟩ := ofR_law (op := 1) h.2 hb rfl
  refine ⟨norm_unique _ _ n1 m1 fun z => ?_, n1, right_of_mem n1 fun z hz => ?_⟩
  · rw [n2 z, m2 z]
    have : opR 1 (inR l z) (inR [s] z) = (inR l z || inR [s] z) := by simp [opR]
    rw [this, Bool.or_eq_true, inR_right h.2, inR_right hb, memS_one]
  · rcases (n2 z).1 hz with h' | h'
    · exact good_lt h h'
    · omega
theorem lessS_eq {l : List (Int × Int)} {s : Int × Int} (h : Good l) (hs : rightS s = true) : lessS l s = ofR l [s] 3 ∧ Good (lessS l s) := by
  obtain ⟨n1, n2⟩ := lessS_norm (s := s) h.1
  have hb : AllRight [s] := fun p hp => by simp at hp; subst hp; exact hs
  obtain ⟨m1, m2⟩ := ofR_law (op := 3) h.2 hb rfl
  refine ⟨norm_unique _ _ n1 m1 fun z => ?_, n1, right_of_mem n1 fun z hz => good_lt h ((n2 z).1 hz).1⟩
  rw [n2 z, m2 z]
  have : opR 3 (inR l z) (inR [s] z) = (inR l z && !inR [s] z) := by simp [opR]
  rw [this, Bool.and_eq_true, inR_right h.2, Bool.not_eq_true', ← memS_one (p := s), ← inR_right hb]
  simp

end Go.Proofs.YtoaiamgcegnjjaaGreatDoor
