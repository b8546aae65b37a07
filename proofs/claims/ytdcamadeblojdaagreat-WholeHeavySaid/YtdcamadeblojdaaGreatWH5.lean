import Derived.Test.YtdcamadeblojdaaGreatWH4
namespace Go.Proofs.YtdcamadeblojdaaGreat
open Go
set_option linter.unusedVariables false
set_option linter.unusedSimpArgs false

theorem farI_eq : farI = 4611686018427387904 := rfl
/-- The columns that a row may have. -/
def al (wd u c : Nat) : Prop := c < wd ∨ c = wd + u
instance {wd u c : Nat} : Decidable (al wd u c) := by unfold al; infer_instance
def wt (wd : Nat) (W : Nat → Nat → Int) (u c : Nat) : Int := if c < wd then W u c else 0
/-- The first k rows have columns. -/
structure HgP (N wd k : Nat) (W : Nat → Nat → Int) (p q row : Nat → Int) : Prop where
  fe : ∀ u, u < k → ∀ c, c < N → al wd u c → wt wd W u c ≤ p u + q c
  ma : ∀ c, c < N → (row c = -1 ∧ q c = 0) ∨ ∃ u : Nat, u < k ∧ row c = u ∧ al wd u c ∧ p u + q c = wt wd W u c
  inj : ∀ c c' : Nat, c < N → c' < N → 0 ≤ row c → row c = row c' → c = c'
  on : ∀ u, u < k → ∃ c, c < N ∧ row c = u
  q0 : ∀ c, c < N → 0 ≤ q c ∧ q c ≤ k * 1048576
  p0 : ∀ u, k ≤ u → p u = 0
  p1 : ∀ u, u < k → p u ≤ 1048576
/-- By how much the potentials are more. -/
def gp (wd : Nat) (W : Nat → Nat → Int) (p q : Nat → Int) (u c : Nat) : Int := p u + q c - wt wd W u c
/-- How a column was come to. -/
def FrP (N wd v : Nat) (W : Nat → Nat → Int) (p q row frm : Nat → Int) (done : Nat → Bool) (rk : Nat → Nat) (c : Nat) (g : Int) : Prop :=
  (frm c = -1 ∧ al wd v c ∧ gp wd W p q v c = g) ∨ ∃ b u : Nat, frm c = b ∧ b < N ∧ done b = true ∧ row b = u ∧ al wd u c ∧ gp wd W p q u c = g ∧ (done c = true → rk b < rk c)
/-- A row looks for a column: X are the rows of those that were come to and looked from. -/
structure TkP (N wd v : Nat) (W : Nat → Nat → Int) (row : Nat → Int) (P : Int) (p q least frm : Nat → Int) (done : Nat → Bool) (rk : Nat → Nat) (t : Nat) (R : List Nat) (X : Nat → Prop) : Prop where
  fe : ∀ u, u < v + 1 → ∀ c, c < N → al wd u c → wt wd W u c ≤ p u + q c
  ma : ∀ c, c < N → (row c = -1 ∧ q c = 0 ∧ done c = false) ∨ ∃ u : Nat, u < v ∧ row c = u ∧ al wd u c ∧ p u + q c = wt wd W u c
  inj : ∀ c c' : Nat, c < N → c' < N → 0 ≤ row c → row c = row c' → c = c'
  on : ∀ u, u < v → ∃ c, c < N ∧ row c = u
  q0 : ∀ c, c < N → 0 ≤ q c ∧ q c ≤ v * 1048576 + (P - p v)
  pv : 0 ≤ p v ∧ p v ≤ P ∧ P ≤ 1048576
  p0 : ∀ u, v < u → p u = 0
  p1 : ∀ u, u < v → p u ≤ 1048576
  rr : ∀ u : Nat, u ∈ R ↔ u = v ∨ ∃ c, c < N ∧ done c = true ∧ row c = u
  nd : R.Nodup
  sc : ∀ u, X u → ∀ c, c < N → done c = false → al wd u c → least c ≤ gp wd W p q u c
  lf : ∀ c, c < N → (done c = false ∧ least c = farI) ∨ (done c = false ∧ FrP N wd v W p q row frm done rk c (least c)) ∨ (done c = true ∧ FrP N wd v W p q row frm done rk c 0)
  rk : ∀ c, c < N → done c = true → rk c < t

section
variable {N wd v k : Nat} {W : Nat → Nat → Int} {row p q least frm : Nat → Int} {P : Int} {done : Nat → Bool} {rk : Nat → Nat} {t : Nat} {R : List Nat} {X : Nat → Prop} {a c h : Nat} {g : Int}
theorem gp_eq (u c : Nat) : gp wd W p q u c = p u + q c - wt wd W u c := rfl
theorem TkP.gp0 (T : TkP N wd v W row P p q least frm done rk t R X) {u c : Nat} (hu : u < v + 1) (hc : c < N) (ha : al wd u c) : 0 ≤ gp wd W p q u c := by
  have := T.fe u hu c hc ha
  rw [gp_eq]; omega
theorem TkP.rlt (T : TkP N wd v W row P p q least frm done rk t R X) {u : Nat} (hu : u ∈ R) : u < v + 1 := by
  rcases (T.rr u).1 hu with rfl | ⟨c, hc, hd, hr⟩
  · omega
  · rcases T.ma c hc with ⟨h, _⟩ | ⟨u', h1, h2, _⟩
    · omega
    · omega
/-- Where rows are below 0 at least. -/
theorem TkP.pb (T : TkP N wd v W row P p q least frm done rk t R X) (hN : ∀ u, u < v + 1 → wd + u < N) {u : Nat} (hu : u < v + 1) : -((v + 1) * 1048576 : Int) ≤ p u ∧ p u ≤ 1048576 := by
  have a := T.fe u hu (wd + u) (hN u hu) (.inr rfl)
  have b := T.q0 (wd + u) (hN u hu)
  have c := T.pv
  have e : wt wd W u (wd + u) = 0 := by unfold wt; rw [if_neg (by omega)]
  refine ⟨by omega, ?_⟩
  by_cases h : u = v
  · subst h; omega
  · exact T.p1 u (by omega)
theorem TkP.gb (T : TkP N wd v W row P p q least frm done rk t R X) (hW : ∀ u c, 0 ≤ wt wd W u c) (hv : v ≤ 1024) {u c : Nat} (hu : u < v + 1) (hc : c < N) : gp wd W p q u c ≤ 1075838976 := by
  have b := T.q0 c hc
  have d := T.pv
  have e := hW u c
  rw [gp_eq]
  by_cases h : u = v
  · subst h; omega
  · have := T.p1 u (by omega); omega
theorem FrP.lt (h : FrP N wd v W p q row frm done rk c g) (T : TkP N wd v W row P p q least frm done rk t R X) (hW : ∀ u c, 0 ≤ wt wd W u c) (hv : v ≤ 1024) (hc : c < N) : 0 ≤ g ∧ g ≤ 1075838976 := by
  rcases h with ⟨_, h2, h3⟩ | ⟨b, u, h1, h2, h3, h4, h5, h6, _⟩
  · rw [← h3]; exact ⟨T.gp0 (by omega) hc h2, T.gb hW hv (by omega) hc⟩
  · have hu := T.rlt ((T.rr u).2 (.inr ⟨b, h2, h3, h4⟩))
    rw [← h6]; exact ⟨T.gp0 hu hc h5, T.gb hW hv hu hc⟩
/-- The start. -/
theorem HgP.take (G : HgP N wd v W p q row) (hp : p v = 0) {P : Int} (hP : 0 ≤ P ∧ P ≤ 1048576) (hf : ∀ c, c < N → al wd v c → wt wd W v c ≤ P + q c) (rk : Nat → Nat) :
    TkP N wd v W row P (upd p v P) q (fun _ => farI) (fun _ => -1) (fun _ => false) rk 0 [v] (fun _ => False) := by
  have hne : ∀ u, u < v → upd p v P u = p u := fun u hu => upd_ne (by omega)
  refine ⟨fun u hu c hc ha => ?_, fun c hc => ?_, G.inj, G.on, fun c hc => ?_, ?_, fun u hu => ?_, fun u hu => ?_, fun u => ?_, by simp, fun u h => h.elim, fun c hc => .inl ⟨rfl, rfl⟩, fun c hc h => by cases h⟩
  · by_cases e : u = v
    · subst e; rw [upd_at]; exact hf c hc ha
    · rw [hne u (by omega)]; exact G.fe u (by omega) c hc ha
  · rcases G.ma c hc with ⟨h1, h2⟩ | ⟨u, h1, h2, h3, h4⟩
    · exact .inl ⟨h1, h2, rfl⟩
    · exact .inr ⟨u, h1, h2, h3, by rw [hne u h1]; exact h4⟩
  · rw [upd_at]
    have := G.q0 c hc
    omega
  · rw [upd_at]; omega
  · rw [upd_ne (by omega)]; exact G.p0 u (by omega)
  · rw [hne u hu]; exact G.p1 u hu
  · simp
theorem TkP.wk {X' : Nat → Prop} (T : TkP N wd v W row P p q least frm done rk t R X) (h : ∀ u, X' u → X u) : TkP N wd v W row P p q least frm done rk t R X' :=
  ⟨T.fe, T.ma, T.inj, T.on, T.q0, T.pv, T.p0, T.p1, T.rr, T.nd, fun u hu => T.sc u (h u hu), T.lf, T.rk⟩
/-- The row's own column is not done. -/
theorem TkP.own (T : TkP N wd v W row P p q least frm done rk t R X) (hN : wd + v < N) : done (wd + v) = false ∧ q (wd + v) = 0 := by
  rcases T.ma (wd + v) hN with ⟨_, h2, h3⟩ | ⟨u, h1, h2, h3, _⟩
  · exact ⟨h3, h2⟩
  · rcases h3 with h3 | h3 <;> omega
theorem TkP.lb (T : TkP N wd v W row P p q least frm done rk t R X) (hW : ∀ u c, 0 ≤ wt wd W u c) (hv : v ≤ 1024) (hc : c < N) (hd : done c = false) (hl : least c < farI) : 0 ≤ least c ∧ least c ≤ 1075838976 := by
  rcases T.lf c hc with ⟨_, h⟩ | ⟨_, h⟩ | ⟨h, _⟩
  · omega
  · exact FrP.lt h T hW hv hc
  · rw [hd] at h; cases h
/-- What a look from a row finds. -/
def scL (N wd : Nat) (W : Nat → Nat → Int) (p q least : Nat → Int) (done : Nat → Bool) (a j c : Nat) : Int := if c < j ∧ done c = false ∧ al wd a c ∧ gp wd W p q a c < least c then gp wd W p q a c else least c
def scF (N wd : Nat) (W : Nat → Nat → Int) (p q least frm : Nat → Int) (done : Nat → Bool) (a : Nat) (inn : Int) (j c : Nat) : Int := if c < j ∧ done c = false ∧ al wd a c ∧ gp wd W p q a c < least c then inn else frm c
theorem TkP.scan (T : TkP N wd v W row P p q least frm done rk t R (fun u => u ∈ R ∧ u ≠ a)) {inn : Int} (hi : (inn = -1 ∧ a = v) ∨ ∃ b : Nat, b < N ∧ inn = b ∧ done b = true ∧ row b = a) :
    TkP N wd v W row P p q (scL N wd W p q least done a N) (scF N wd W p q least frm done a inn N) done rk t R (fun u => u ∈ R) := by
  refine ⟨T.fe, T.ma, T.inj, T.on, T.q0, T.pv, T.p0, T.p1, T.rr, T.nd, fun u hu c hc hd ha => ?_, fun c hc => ?_, T.rk⟩
  · unfold scL
    by_cases h : c < N ∧ done c = false ∧ al wd a c ∧ gp wd W p q a c < least c
    · rw [if_pos h]
      by_cases e : u = a
      · subst e; exact Int.le_refl _
      · have := T.sc u ⟨hu, e⟩ c hc hd ha
        omega
    · rw [if_neg h]
      by_cases e : u = a
      · subst e
        have : ¬ gp wd W p q u c < least c := fun h2 => h ⟨hc, hd, ha, h2⟩
        omega
      · exact T.sc u ⟨hu, e⟩ c hc hd ha
  · unfold scL
    by_cases h : c < N ∧ done c = false ∧ al wd a c ∧ gp wd W p q a c < least c
    · rw [if_pos h]
      refine .inr (.inl ⟨h.2.1, ?_⟩)
      unfold FrP scF
      rw [if_pos h]
      rcases hi with ⟨h1, rfl⟩ | ⟨b, h1, h2, h3, h4⟩
      · exact .inl ⟨h1, h.2.2.1, rfl⟩
      · exact .inr ⟨b, a, h2, h1, h3, h4, h.2.2.1, rfl, fun h5 => by rw [h.2.1] at h5; cases h5⟩
    · rw [if_neg h]
      have e : scF N wd W p q least frm done a inn N c = frm c := if_neg h
      rcases T.lf c hc with h1 | ⟨h1, h2⟩ | ⟨h1, h2⟩
      · exact .inl h1
      · refine .inr (.inl ⟨h1, ?_⟩)
        unfold FrP at *
        rw [e]; exact h2
      · refine .inr (.inr ⟨h1, ?_⟩)
        unfold FrP at *
        rw [e]; exact h2
/-- The potentials are changed. -/
def upP (p : Nat → Int) (R : List Nat) (less : Int) (u : Nat) : Int := if u ∈ R then p u - less else p u
def upQ (q : Nat → Int) (done : Nat → Bool) (less : Int) (j c : Nat) : Int := if c < j ∧ done c = true then q c + less else q c
def upL (least : Nat → Int) (done : Nat → Bool) (less : Int) (j c : Nat) : Int := if c < j ∧ done c = false ∧ least c < farI then least c - less else least c
theorem TkP.upd (T : TkP N wd v W row P p q least frm done rk t R (fun u => u ∈ R)) {nx : Nat} (hnx : nx < N) (hd : done nx = false) (hl : least nx < farI) (hm : ∀ c, c < N → done c = false → least nx ≤ least c) (hN : wd + v < N) (hW : ∀ u c, 0 ≤ wt wd W u c) (hv : v ≤ 1024) :
    0 ≤ least nx ∧ TkP N wd v W row P (upP p R (least nx)) (upQ q done (least nx) N) (upL least done (least nx) N) frm done rk t R (fun u => u ∈ R) ∧ upL least done (least nx) N nx = 0 := by
  have l0 : 0 ≤ least nx := by
    rcases T.lf nx hnx with ⟨_, h⟩ | ⟨_, h⟩ | ⟨h, _⟩
    · omega
    · exact (FrP.lt h T hW hv hnx).1
    · rw [hd] at h; cases h
  generalize hX : least nx = x at *
  have vR : v ∈ R := (T.rr v).2 (.inl rfl)
  -- the row's own column is not done
  have ow : done (wd + v) = false ∧ q (wd + v) = 0 := by
    rcases T.ma (wd + v) hN with ⟨_, h2, h3⟩ | ⟨u, h1, h2, h3, _⟩
    · exact ⟨h3, h2⟩
    · rcases h3 with h3 | h3 <;> omega
  have xv : x ≤ p v := by
    have h1 := T.sc v vR (wd + v) hN ow.1 (.inr rfl)
    have h2 := hm _ hN ow.1
    have e : wt wd W v (wd + v) = 0 := by unfold wt; rw [if_neg (by omega)]
    rw [gp_eq, e, ow.2] at h1
    omega
  have qq : ∀ c, c < N → upQ q done x N c = if done c = true then q c + x else q c := fun c hc => by
    unfold upQ
    by_cases h : done c = true
    · rw [if_pos ⟨hc, h⟩, if_pos h]
    · rw [if_neg (fun h2 => h h2.2), if_neg h]
  -- the sums
  have gu : ∀ u c, c < N → u ∈ R → gp wd W (upP p R x) (upQ q done x N) u c = if done c = true then gp wd W p q u c else gp wd W p q u c - x := fun u c hc hu => by
    rw [gp_eq, qq c hc]
    unfold upP
    rw [if_pos hu]
    split <;> rw [gp_eq] <;> omega
  have tg : ∀ u c, c < N → u < v → row c = (u : Int) → ((u ∈ R) ↔ done c = true) := fun u c hc hu hr => by
    refine ⟨fun h => ?_, fun h => (T.rr u).2 (.inr ⟨c, hc, h, hr⟩)⟩
    rcases (T.rr u).1 h with h | ⟨c', hc', hd', hr'⟩
    · omega
    · have := T.inj c c' hc hc' (by omega) (by omega)
      subst this; exact hd'
  have frp : ∀ c, c < N → ∀ g, FrP N wd v W p q row frm done rk c g → FrP N wd v W (upP p R x) (upQ q done x N) row frm done rk c (if done c = true then g else g - x) := fun c hc g h => by
    rcases h with ⟨h1, h2, h3⟩ | ⟨b, u, h1, h2, h3, h4, h5, h6, h7⟩
    · refine .inl ⟨h1, h2, ?_⟩
      rw [gu v c hc vR, h3]
    · refine .inr ⟨b, u, h1, h2, h3, h4, h5, ?_, h7⟩
      rw [gu u c hc ((T.rr u).2 (.inr ⟨b, h2, h3, h4⟩)), h6]
  refine ⟨l0, ⟨fun u hu c hc ha => ?_, fun c hc => ?_, T.inj, T.on, fun c hc => ?_, ?_, fun u hu => ?_, fun u hu => ?_, T.rr, T.nd, fun u hu c hc hdc ha => ?_, fun c hc => ?_, T.rk⟩, ?_⟩
  · rw [qq c hc]
    have h := T.fe u hu c hc ha
    unfold upP
    by_cases hR : u ∈ R
    · rw [if_pos hR]
      by_cases hdc : done c = true
      · rw [if_pos hdc]; omega
      · rw [if_neg hdc]
        have hdc : done c = false := by simpa using hdc
        have h1 := T.sc u hR c hc hdc ha
        have h2 := hm c hc hdc
        rw [gp_eq] at h1; omega
    · rw [if_neg hR]; split <;> omega
  · rcases T.ma c hc with ⟨h1, h2, h3⟩ | ⟨u, h1, h2, h3, h4⟩
    · refine .inl ⟨h1, ?_, h3⟩
      rw [qq c hc, if_neg (by rw [h3]; simp)]; exact h2
    · refine .inr ⟨u, h1, h2, h3, ?_⟩
      rw [qq c hc]
      unfold upP
      by_cases hR : u ∈ R
      · rw [if_pos hR, if_pos ((tg u c hc h1 h2).1 hR)]; omega
      · rw [if_neg hR, if_neg (fun h => hR ((tg u c hc h1 h2).2 h))]; exact h4
  · have h := T.q0 c hc
    have e : upP p R x v = p v - x := if_pos vR
    rw [qq c hc, e]
    split <;> omega
  · have e : upP p R x v = p v - x := if_pos vR
    have := T.pv
    rw [e]; omega
  · have : u ∉ R := fun h => by have := T.rlt h; omega
    unfold upP
    rw [if_neg this]; exact T.p0 u hu
  · have := T.p1 u hu
    unfold upP; split <;> omega
  · rw [gu u c hc hu, if_neg (by rw [hdc]; simp)]
    have h1 := T.sc u hu c hc hdc ha
    unfold upL
    split
    · omega
    · rename_i h
      have : ¬ least c < farI := fun h2 => h ⟨hc, hdc, h2⟩
      -- such a column was not looked at from here
      exfalso
      have := T.gb hW hv (T.rlt hu) hc
      have := farI_eq
      omega
  · rcases T.lf c hc with ⟨h1, h2⟩ | ⟨h1, h2⟩ | ⟨h1, h2⟩
    · refine .inl ⟨h1, ?_⟩
      unfold upL
      rw [if_neg (by rintro ⟨_, _, h⟩; omega)]; exact h2
    · have := frp c hc _ h2
      rw [if_neg (by rw [h1]; simp)] at this
      have hb := (FrP.lt h2 T hW hv hc).2
      refine .inr (.inl ⟨h1, ?_⟩)
      unfold upL
      have := farI_eq
      rw [if_pos ⟨hc, h1, by omega⟩]; assumption
    · have := frp c hc _ h2
      rw [if_pos h1] at this
      exact .inr (.inr ⟨h1, this⟩)
  · unfold upL
    rw [if_pos ⟨hnx, hd, by omega⟩, hX]; omega
/-- The next column has a row: it is looked from next. -/
theorem TkP.more (T : TkP N wd v W row P p q least frm done rk t R (fun u => u ∈ R)) {nx a : Nat} (hnx : nx < N) (hd : done nx = false) (hl : least nx = 0) (hr : row nx = a) :
    TkP N wd v W row P p q least frm (updB done nx true) (fun c => if c = nx then t else rk c) (t + 1) (R ++ [a]) (fun u => u ∈ R ++ [a] ∧ u ≠ a) ∧ a ∉ R ∧ a < v := by
  have hN : done nx = false := hd
  have av : a < v := by
    rcases T.ma nx hnx with ⟨h, _⟩ | ⟨u, h1, h2, _⟩ <;> omega
  have na : a ∉ R := fun h => by
    rcases (T.rr a).1 h with h | ⟨c, hc, h1, h2⟩
    · omega
    · have := T.inj nx c hnx hc (by omega) (by omega)
      subst this; rw [hd] at h1; cases h1
  have ud : ∀ c, updB done nx true c = true ↔ c = nx ∨ done c = true := fun c => by
    unfold updB
    by_cases e : c = nx
    · simp [e]
    · simp [e]
  have uf : ∀ c, updB done nx true c = false ↔ c ≠ nx ∧ done c = false := fun c => by
    unfold updB
    by_cases e : c = nx
    · simp [e]
    · simp [e]
  have rkne : ∀ c, c ≠ nx → (if c = nx then t else rk c) = rk c := fun c h => if_neg h
  have frp : ∀ c, c < N → ∀ g, FrP N wd v W p q row frm done rk c g → FrP N wd v W p q row frm (updB done nx true) (fun c => if c = nx then t else rk c) c g := fun c hc g h => by
    rcases h with h | ⟨b, u, h1, h2, h3, h4, h5, h6, h7⟩
    · exact .inl h
    · have bn : b ≠ nx := fun e => by rw [e, hd] at h3; cases h3
      refine .inr ⟨b, u, h1, h2, (ud b).2 (.inr h3), h4, h5, h6, fun hc2 => ?_⟩
      show (if b = nx then t else rk b) < (if c = nx then t else rk c)
      rw [if_neg bn]
      rcases (ud c).1 hc2 with e | e
      · rw [if_pos e]; exact T.rk b h2 h3
      · rw [if_neg (fun e2 => by rw [e2, hd] at e; cases e)]; exact h7 e
  refine ⟨⟨T.fe, fun c hc => ?_, T.inj, T.on, T.q0, T.pv, T.p0, T.p1, fun u => ?_, ?_, fun u hu c hc hdc ha => ?_, fun c hc => ?_, fun c hc h => ?_⟩, na, av⟩
  · rcases T.ma c hc with ⟨h1, h2, h3⟩ | h
    · refine .inl ⟨h1, h2, (uf c).2 ⟨fun e => ?_, h3⟩⟩
      rw [e, hr] at h1; omega
    · exact .inr h
  · rw [List.mem_append, List.mem_singleton, T.rr]
    constructor
    · rintro ((h | ⟨c, hc, h1, h2⟩) | rfl)
      · exact .inl h
      · exact .inr ⟨c, hc, (ud c).2 (.inr h1), h2⟩
      · exact .inr ⟨nx, hnx, (ud nx).2 (.inl rfl), hr⟩
    · rintro (h | ⟨c, hc, h1, h2⟩)
      · exact .inl (.inl h)
      · rcases (ud c).1 h1 with rfl | h1
        · exact .inr (by omega)
        · exact .inl (.inr ⟨c, hc, h1, h2⟩)
  · rw [List.nodup_append]
    refine ⟨T.nd, by simp, fun x hx y hy => ?_⟩
    rw [List.mem_singleton] at hy
    rintro rfl
    rw [hy] at hx; exact na hx
  · have hu2 : u ∈ R := by
      have := hu.1
      rw [List.mem_append, List.mem_singleton] at this
      rcases this with h | h
      · exact h
      · exact absurd h hu.2
    exact T.sc u hu2 c hc ((uf c).1 hdc).2 ha
  · by_cases e : c = nx
    · refine .inr (.inr ⟨(ud c).2 (.inl e), ?_⟩)
      rcases T.lf c hc with ⟨_, h2⟩ | ⟨_, h2⟩ | ⟨h1, _⟩
      · rw [e, hl] at h2; exact absurd h2 (by decide)
      · rw [e, hl, ← e] at h2; exact frp c hc _ h2
      · rw [e, hd] at h1; cases h1
    · rcases T.lf c hc with ⟨h1, h2⟩ | ⟨h1, h2⟩ | ⟨h1, h2⟩
      · exact .inl ⟨(uf c).2 ⟨e, h1⟩, h2⟩
      · exact .inr (.inl ⟨(uf c).2 ⟨e, h1⟩, frp c hc _ h2⟩)
      · exact .inr (.inr ⟨(ud c).2 (.inr h1), frp c hc _ h2⟩)
  · show (if c = nx then t else rk c) < t + 1
    rcases (ud c).1 h with e | e
    · rw [if_pos e]; omega
    · have := T.rk c hc e
      split <;> omega
/-- A way back: the column h has no row of its own yet. -/
structure HlP (N wd v : Nat) (W : Nat → Nat → Int) (p q row frm : Nat → Int) (done : Nat → Bool) (rk : Nat → Nat) (h : Nat) : Prop where
  hh : h < N
  fe : ∀ u, u < v + 1 → ∀ c, c < N → al wd u c → wt wd W u c ≤ p u + q c
  ma : ∀ x, x < N → x ≠ h → (row x = -1 ∧ q x = 0) ∨ ∃ u : Nat, u < v ∧ row x = u ∧ al wd u x ∧ p u + q x = wt wd W u x
  inj : ∀ x x' : Nat, x < N → x' < N → x ≠ h → x' ≠ h → 0 ≤ row x → row x = row x' → x = x'
  on : ∀ u, u < v → ∃ x, x < N ∧ x ≠ h ∧ row x = u
  q0 : ∀ c, c < N → 0 ≤ q c ∧ q c ≤ (v + 1 : Nat) * 1048576
  p0 : ∀ u, v < u → p u = 0
  p1 : ∀ u, u < v + 1 → p u ≤ 1048576
  tr : ∀ x, x < N → (x = h ∨ (done x = true ∧ rk x < rk h)) → (frm x = -1 ∧ al wd v x ∧ p v + q x = wt wd W v x) ∨ ∃ b u : Nat, frm x = b ∧ b < N ∧ done b = true ∧ rk b < rk x ∧ row b = u ∧ u < v ∧ al wd u x ∧ p u + q x = wt wd W u x
theorem TkP.hole (T : TkP N wd v W row P p q least frm done rk t R (fun u => u ∈ R)) {nx : Nat} (hnx : nx < N) (hd : done nx = false) (hl : least nx = 0) (hr : row nx = -1) :
    HlP N wd v W p q row frm done (fun c => if c = nx then t else rk c) nx := by
  have b2 := T.pv
  refine ⟨hnx, T.fe, fun x hx hne => ?_, fun x x' hx hx' _ _ => T.inj x x' hx hx', fun u hu => ?_, fun c hc => ?_, T.p0, fun u hu => ?_, fun x hx h => ?_⟩
  · rcases T.ma x hx with ⟨h1, h2, _⟩ | h
    · exact .inl ⟨h1, h2⟩
    · exact .inr h
  · obtain ⟨c, hc, h1⟩ := T.on u hu
    exact ⟨c, hc, fun e => by rw [e, hr] at h1; omega, h1⟩
  · have := T.q0 c hc
    omega
  · by_cases e : u = v
    · subst e; omega
    · exact T.p1 u (by omega)
  · have key : ∃ g, g = 0 ∧ FrP N wd v W p q row frm done rk x g ∧ (x = nx ∨ done x = true) := by
      rcases h with rfl | ⟨h1, _⟩
      · rcases T.lf x hx with ⟨_, h2⟩ | ⟨_, h2⟩ | ⟨h1, _⟩
        · rw [hl] at h2; exact absurd h2 (by decide)
        · exact ⟨_, hl, h2, .inl rfl⟩
        · rw [hd] at h1; cases h1
      · rcases T.lf x hx with ⟨h2, _⟩ | ⟨h2, _⟩ | ⟨_, h2⟩
        · rw [h1] at h2; cases h2
        · rw [h1] at h2; cases h2
        · exact ⟨0, rfl, h2, .inr h1⟩
    obtain ⟨g, rfl, h2, hx2⟩ := key
    rcases h2 with ⟨h3, h4, h5⟩ | ⟨b, u, h3, h4, h5, h6, h7, h8, h9⟩
    · rw [gp_eq] at h5
      exact .inl ⟨h3, h4, by omega⟩
    · have bn : b ≠ nx := fun e => by rw [e, hd] at h5; cases h5
      rw [gp_eq] at h8
      refine .inr ⟨b, u, h3, h4, h5, ?_, h6, ?_, h7, by omega⟩
      · show (if b = nx then t else rk b) < (if x = nx then t else rk x)
        rw [if_neg bn]
        by_cases e : x = nx
        · rw [if_pos e]; exact T.rk b h4 h5
        · rw [if_neg e]
          rcases hx2 with h | h
          · exact absurd h e
          · exact h9 h
      · rcases T.ma b h4 with ⟨h, _⟩ | ⟨u', h, h', _⟩ <;> omega
theorem HlP.step (G : HlP N wd v W p q row frm done rk h) {b : Nat} (hb : frm h = b) : HlP N wd v W p q (upd row h (row b)) frm done rk b ∧ rk b < rk h ∧ b < N := by
  rcases G.tr h G.hh (.inl rfl) with ⟨h1, _⟩ | ⟨b', u, h1, h2, h3, h4, h5, h6, h7, h8⟩
  · omega
  have : b' = b := by omega
  subst this
  have bh : b' ≠ h := fun e => by rw [e] at h4; omega
  have ro : ∀ x, x ≠ h → upd row h (row b') x = row x := fun x hx => upd_ne hx
  refine ⟨⟨h2, G.fe, fun x hx hne => ?_, fun x x' hx hx' n1 n2 => ?_, fun w hw => ?_, G.q0, G.p0, G.p1, fun x hx hd => ?_⟩, h4, h2⟩
  · by_cases e : x = h
    · subst e; rw [upd_at]; exact .inr ⟨u, h6, h5, h7, h8⟩
    · rw [ro x e]; exact G.ma x hx e
  · by_cases e : x = h
    · subst e
      rw [upd_at]
      by_cases e' : x' = x
      · exact fun _ _ => e'.symm
      · rw [ro x' e']
        intro h0 h9
        exact absurd (G.inj b' x' h2 hx' bh e' h0 h9).symm n2
    · rw [ro x e]
      by_cases e' : x' = h
      · subst e'
        rw [upd_at]
        intro h0 h9
        exact absurd (G.inj x b' hx h2 e bh h0 h9) n1
      · rw [ro x' e']
        exact G.inj x x' hx hx' e e'
  · obtain ⟨x, hx, h9, h10⟩ := G.on w hw
    by_cases e : x = b'
    · subst e
      exact ⟨h, G.hh, fun e => bh e.symm, by rw [upd_at]; exact h10⟩
    · exact ⟨x, hx, e, by rw [ro x h9]; exact h10⟩
  · have xr : rk x ≤ rk b' := by
      rcases hd with rfl | ⟨_, h⟩ <;> omega
    have xd : done x = true := by
      rcases hd with rfl | ⟨h, _⟩
      · exact h3
      · exact h
    rcases G.tr x hx (.inr ⟨xd, by omega⟩) with h9 | ⟨b2, u2, k1, k2, k3, k4, k5, k6, k7, k8⟩
    · exact .inl h9
    · refine .inr ⟨b2, u2, k1, k2, k3, k4, ?_, k6, k7, k8⟩
      rw [ro b2 (by rintro rfl; omega)]; exact k5
theorem HlP.last (G : HlP N wd v W p q row frm done rk h) (hb : frm h < 0) : HgP N wd (v + 1) W p q (upd row h v) := by
  rcases G.tr h G.hh (.inl rfl) with ⟨_, h1, h2⟩ | ⟨b, u, h1, _⟩
  rotate_left
  · omega
  have ro : ∀ x, x ≠ h → upd row h (v : Int) x = row x := fun x hx => upd_ne hx
  have rlt : ∀ x, x < N → x ≠ h → row x < v := fun x hx hne => by
    rcases G.ma x hx hne with ⟨h3, _⟩ | ⟨u, h3, h4, _⟩ <;> omega
  refine ⟨G.fe, fun x hx => ?_, fun x x' hx hx' => ?_, fun w hw => ?_, G.q0, fun u hu => G.p0 u (by omega), G.p1⟩
  · by_cases e : x = h
    · subst e; rw [upd_at]; exact .inr ⟨v, by omega, rfl, h1, h2⟩
    · rw [ro x e]
      rcases G.ma x hx e with h3 | ⟨u, h3, h4⟩
      · exact .inl h3
      · exact .inr ⟨u, by omega, h4⟩
  · by_cases e : x = h
    · subst e
      rw [upd_at]
      by_cases e' : x' = x
      · exact fun _ _ => e'.symm
      · rw [ro x' e']
        intro _ h9
        have := rlt x' hx' e'; omega
    · rw [ro x e]
      by_cases e' : x' = h
      · subst e'
        rw [upd_at]
        intro _ h9
        have := rlt x hx e; omega
      · rw [ro x' e']; exact G.inj x x' hx hx' e e'
  · by_cases e : w = v
    · subst e; exact ⟨h, G.hh, upd_at⟩
    · obtain ⟨x, hx, h9, h10⟩ := G.on w (by omega)
      exact ⟨x, hx, by rw [ro x h9]; exact h10⟩
end

end Go.Proofs.YtdcamadeblojdaaGreat

namespace Go.Proofs.YtdcamadeblojdaaGreat
open Go
set_option linter.unusedVariables false
set_option linter.unusedSimpArgs false

abbrev lfE (es : Nat → Ed) (i : Nat) : Nat := min (frE es i) (toE es i)
abbrev rtE (es : Nat → Ed) (i : Nat) : Nat := max (frE es i) (toE es i)
/-- What edges of a list cost. -/
def lkE (es : Nat → Ed) : List Nat → Int
  | [] => 0
  | i :: l => (es i).k + lkE es l
theorem lkE_app (es : Nat → Ed) : ∀ (a b : List Nat), lkE es (a ++ b) = lkE es a + lkE es b
  | [], b => by show lkE es b = 0 + lkE es b; omega
  | i :: a, b => by
    show (es i).k + lkE es (a ++ b) = (es i).k + lkE es a + lkE es b
    rw [lkE_app]; omega
theorem lkE_perm (es : Nat → Ed) {a b : List Nat} (h : a.Perm b) : lkE es a = lkE es b := by
  induction h with
  | nil => rfl
  | cons x _ ih => show _ + _ = _ + _; rw [ih]
  | swap x y l => show (es y).k + ((es x).k + lkE es l) = (es x).k + ((es y).k + lkE es l); omega
  | trans _ _ ih1 ih2 => exact ih1.trans ih2
/-- A matching of two sides with potentials that prove that none costs more. -/
structure MaR (n m left : Nat) (es : Nat → Ed) (L : List Nat) (pt : Nat → Int) : Prop where
  lt : ∀ i, i ∈ L → i < m
  nd : L.Pairwise fun i j => lfE es i ≠ lfE es j ∧ rtE es i ≠ rtE es j
  po : ∀ v, v < n → 0 ≤ pt v ∧ pt v ≤ 2147483648
  co : ∀ i, i < m → (es i).k ≤ pt (frE es i) + pt (toE es i)
  su : sumN n pt = lkE es L
  ln : L.length ≤ 1024
/-- The heaviest edges between two nodes. -/
structure BsP (left wd m : Nat) (es : Nat → Ed) (bs : Nat → Nat → Nat) : Prop where
  bm : ∀ v c, v < left → c < wd → bs v c ≤ m
  bw : ∀ v c i, v < left → c < wd → bs v c = i + 1 → lfE es i = v ∧ rtE es i = left + c ∧ 0 < (es i).k
  le : ∀ i v c, i < m → v < left → c < wd → lfE es i = v → rtE es i = left + c → 0 < (es i).k → 0 < bs v c ∧ (es i).k ≤ (es (bs v c - 1)).k
/-- What it weighs. -/
def wgE (es : Nat → Ed) (bs : Nat → Nat → Nat) (v c : Nat) : Int := if 0 < bs v c then (es (bs v c - 1)).k else 0
section
variable {N wd v k left m n : Nat} {W : Nat → Nat → Int} {row p q : Nat → Int} {es : Nat → Ed} {bs : Nat → Nat → Nat}
theorem HgP.rc (G : HgP N wd k W p q row) {c : Nat} (hc : c < N) : row c = -1 ∨ (0 ≤ row c ∧ (row c).toNat < k) := by
  rcases G.ma c hc with ⟨h, _⟩ | ⟨u, h1, h2, _⟩
  · exact .inl h
  · exact .inr (by omega)
theorem HgP.sum (G : HgP N wd k W p q row) : sumN k p + sumN N q = sumN N fun c => if 0 ≤ row c then wt wd W (row c).toNat c else 0 := by
  have e1 : (sumN N fun c => if 0 ≤ row c then wt wd W (row c).toNat c else 0) = sumN N (fun c => (if 0 ≤ row c then p (row c).toNat else 0) + q c) := sumN_congr fun c hc => by
    rcases G.ma c hc with ⟨h1, h2⟩ | ⟨u, h1, h2, h3, h4⟩
    · rw [if_neg (by omega), if_neg (by omega), h2]; rfl
    · rw [if_pos (by omega), if_pos (by omega), h2, Int.toNat_natCast]; omega
  have e2 : (sumN N fun c => if 0 ≤ row c then p (row c).toNat else 0) = sumN N (fun c => sumN k fun u => if row c = (u : Int) then p u else 0) := sumN_congr fun c hc => by
    rcases G.rc hc with h | ⟨h1, h2⟩
    · rw [if_neg (by omega)]
      exact (sumN_zero fun u _ => if_neg (by omega)).symm
    · rw [if_pos h1, ← sumN_ptf (f := p) h2]
      refine sumN_congr fun u _ => ?_
      by_cases e : (row c).toNat = u
      · rw [if_pos e, if_pos (by omega)]
      · rw [if_neg e, if_neg (by omega)]
  have e3 : (sumN k fun u => sumN N fun c => if row c = (u : Int) then p u else 0) = sumN k p := sumN_congr fun u hu => by
    obtain ⟨c0, hc0, hr⟩ := G.on u hu
    have : (sumN N fun c => if row c = (u : Int) then p u else 0) = sumN N (fun c => if c0 = c then p u else 0) := sumN_congr fun c hc => by
      by_cases e : c0 = c
      · subst e; rw [if_pos hr, if_pos rfl]
      · rw [if_neg e, if_neg (fun h => e (G.inj c0 c hc0 hc (by omega) (by omega)))]
    rw [this, sumN_pt, if_pos hc0]
  rw [e1, sumN_add, e2, sumN_swap, e3]
/-- Where a row has the column of its own. -/
theorem HgP.own (G : HgP N wd k W p q row) {u : Nat} (hu : u < k) (hN : wd + u < N) : (if p u < 0 then 0 else p u) = p u + q (wd + u) := by
  have a := G.fe u hu _ hN (.inr rfl)
  have b := G.q0 _ hN
  have e : wt wd W u (wd + u) = 0 := by unfold wt; rw [if_neg (by omega)]
  rcases G.ma _ hN with ⟨_, h2⟩ | ⟨u', h1, h2, h3, h4⟩
  · split <;> omega
  · have : u' = u := by
      rcases h3 with h | h <;> omega
    subst this
    split <;> omega
/-- The potentials that are answered. -/
def ptH (left : Nat) (p q : Nat → Int) (v : Nat) : Int := if v < left then (if p v < 0 then 0 else p v) else q (v - left)
/-- The edges of the first j columns. -/
def mlH (bs : Nat → Nat → Nat) (row : Nat → Int) : Nat → List Nat
  | 0 => []
  | j + 1 => mlH bs row j ++ if 0 ≤ row j ∧ 0 < bs (row j).toNat j then [bs (row j).toNat j - 1] else []
theorem mlH_mem {x : Nat} : ∀ {j : Nat}, x ∈ mlH bs row j → ∃ c, c < j ∧ 0 ≤ row c ∧ bs (row c).toNat c = x + 1
  | 0, h => by cases h
  | j + 1, h => by
    have h : x ∈ mlH bs row j ++ if 0 ≤ row j ∧ 0 < bs (row j).toNat j then [bs (row j).toNat j - 1] else [] := h
    rw [List.mem_append] at h
    rcases h with h | h
    · obtain ⟨c, hc, h1, h2⟩ := mlH_mem h
      exact ⟨c, by omega, h1, h2⟩
    · split at h
      · rename_i hh
        rw [List.mem_singleton] at h
        exact ⟨j, by omega, hh.1, by omega⟩
      · cases h
theorem mlH_len : ∀ {j : Nat}, (mlH bs row j).length ≤ j
  | 0 => Nat.le_refl _
  | j + 1 => by
    have := mlH_len (j := j)
    show (mlH bs row j ++ if 0 ≤ row j ∧ 0 < bs (row j).toNat j then [bs (row j).toNat j - 1] else []).length ≤ j + 1
    rw [List.length_append]
    split
    · simp; omega
    · simp; omega
theorem mlH_nd (G : HgP N wd left (wgE es bs) p q row) (hN : N = wd + left) (B : BsP left wd m es bs) : ∀ {j : Nat}, j ≤ wd → (mlH bs row j).Pairwise fun i j => lfE es i ≠ lfE es j ∧ rtE es i ≠ rtE es j
  | 0, _ => List.Pairwise.nil
  | j + 1, hj => by
    show (mlH bs row j ++ if 0 ≤ row j ∧ 0 < bs (row j).toNat j then [bs (row j).toNat j - 1] else []).Pairwise _
    rw [List.pairwise_append]
    refine ⟨mlH_nd G hN B (by omega), ?_, fun x hx y hy => ?_⟩
    · split
      · exact List.pairwise_singleton _ _
      · exact List.Pairwise.nil
    · split at hy
      · rename_i hh
        rw [List.mem_singleton] at hy
        obtain ⟨c, hc, h1, h2⟩ := mlH_mem hx
        rcases G.rc (c := c) (by omega) with h3 | ⟨_, h3⟩
        · omega
        rcases G.rc (c := j) (by omega) with h4 | ⟨_, h4⟩
        · omega
        obtain ⟨a1, a2, _⟩ := B.bw _ c x h3 (by omega) h2
        obtain ⟨b1, b2, _⟩ := B.bw _ j y h4 (by omega) (by omega)
        refine ⟨fun e => ?_, fun e => by omega⟩
        have := G.inj c j (by omega) (by omega) h1 (by omega)
        omega
      · cases hy
theorem mlH_sum (G : HgP N wd left (wgE es bs) p q row) (hN : N = wd + left) : ∀ {j : Nat}, j ≤ wd → lkE es (mlH bs row j) = sumN j fun c => if 0 ≤ row c then wt wd (wgE es bs) (row c).toNat c else 0
  | 0, _ => rfl
  | j + 1, hj => by
    show lkE es (mlH bs row j ++ if 0 ≤ row j ∧ 0 < bs (row j).toNat j then [bs (row j).toNat j - 1] else []) = sumN j _ + (if 0 ≤ row j then wt wd (wgE es bs) (row j).toNat j else 0)
    rw [lkE_app, mlH_sum G hN (by omega)]
    congr 1
    unfold wt wgE
    rw [if_pos (show j < wd by omega)]
    by_cases h : 0 ≤ row j
    · by_cases h2 : 0 < bs (row j).toNat j
      · rw [if_pos ⟨h, h2⟩, if_pos h, if_pos h2]
        show (es _).k + 0 = _
        omega
      · rw [if_neg (fun h3 => h2 h3.2), if_pos h, if_neg h2]; rfl
    · rw [if_neg (fun h3 => h h3.1), if_neg h]; rfl
theorem HgP.res (G : HgP N wd left (wgE es bs) p q row) (hN : N = wd + left) (hl : left + wd ≤ 1024) (B : BsP left wd m es bs) (hs : ∀ i, i < m → lfE es i < left ∧ left ≤ rtE es i ∧ rtE es i < left + wd) :
    MaR (left + wd) m left es (mlH bs row wd) (ptH left p q) := by
  refine ⟨fun i hi => ?_, mlH_nd G hN B (Nat.le_refl _), fun v hv => ?_, fun i hi => ?_, ?_, ?_⟩
  · obtain ⟨c, hc, h1, h2⟩ := mlH_mem hi
    rcases G.rc (c := c) (by omega) with h3 | ⟨_, h3⟩
    · omega
    have := B.bm _ c h3 hc
    omega
  · unfold ptH
    split
    · rename_i h
      have := G.p1 v h
      split <;> omega
    · have := G.q0 (v - left) (by omega)
      omega
  · obtain ⟨a1, a2, a3⟩ := hs i hi
    have po : ∀ v, v < left → p v ≤ ptH left p q v ∧ 0 ≤ ptH left p q v := fun v hv => by
      unfold ptH; rw [if_pos hv]; split <;> omega
    have pq : ∀ c, ptH left p q (left + c) = q c := fun c => by
      unfold ptH; rw [if_neg (by omega), show left + c - left = c by omega]
    obtain ⟨c, hc⟩ : ∃ c, rtE es i = left + c := ⟨rtE es i - left, by omega⟩
    have e : ptH left p q (frE es i) + ptH left p q (toE es i) = ptH left p q (lfE es i) + ptH left p q (rtE es i) := by
      unfold lfE rtE
      rcases Nat.le_total (frE es i) (toE es i) with h | h
      · rw [Nat.min_eq_left h, Nat.max_eq_right h]
      · rw [Nat.min_eq_right h, Nat.max_eq_left h]; omega
    rw [e, hc, pq]
    have hq := (G.q0 c (by omega)).1
    have hp := po _ a1
    by_cases h0 : 0 < (es i).k
    · obtain ⟨b1, b2⟩ := B.le i _ c hi a1 (by omega) rfl hc h0
      have f := G.fe _ a1 c (by omega) (.inl (by omega))
      unfold wt wgE at f
      rw [if_pos (by omega), if_pos b1] at f
      omega
    · omega
  · rw [mlH_sum G hN (Nat.le_refl _), sumN_split]
    have e1 : sumN left (ptH left p q) = sumN left (fun u => p u + q (wd + u)) := sumN_congr fun u hu => by
      unfold ptH
      rw [if_pos hu]
      exact G.own hu (by omega)
    have e2 : (sumN wd fun i => ptH left p q (left + i)) = sumN wd q := sumN_congr fun c _ => by
      unfold ptH; rw [if_neg (by omega), show left + c - left = c by omega]
    have s := G.sum
    rw [hN, sumN_split, sumN_split] at s
    have e3 : (sumN left fun i => if 0 ≤ row (wd + i) then wt wd (wgE es bs) (row (wd + i)).toNat (wd + i) else 0) = 0 := sumN_zero fun i _ => by
      unfold wt; rw [if_neg (show ¬ wd + i < wd by omega)]; simp
    rw [e1, e2, sumN_add]
    omega
  · have := mlH_len (bs := bs) (row := row) (j := wd)
    omega
end

end Go.Proofs.YtdcamadeblojdaaGreat

namespace Go.Proofs.YtdcamadeblojdaaGreat
open Go
set_option linter.unusedVariables false
set_option linter.unusedSimpArgs false

/-- The table in the heap. -/
structure Tb (own : Own) (h : H) (bt left wd m : Nat) (es : Nat → Ed) (bs : Nat → Nat → Nat) : Prop where
  q : ∃ (vb vc : Value) (vals : Nat → Value), B1 own h 1 bt [.int .i64 left, .int .i64 ((left + wd : Nat) : Int), vb, vc] ∧ S1 own h 2 vb (va left vals) ∧ S1 own h 3 vc (ints m (ckE es)) ∧
    ∀ v, v < left → S1 own h (40 + v) (vals v) (ints wd fun c => (bs v c : Nat))
theorem B1.rI {own : Own} {h : H} {i b j : Nat} {vs : List Value} {x : Int} {K : Int → Prop} (B : B1 own h i b vs) (hi : vs[j]? = some (.int .i64 x)) (k : K x) : ldI h ((bk b).add j) .i64 K := ⟨x, B.ld hi, k⟩
theorem B1.rV {own : Own} {h : H} {i b j : Nat} {vs : List Value} {x : Value} {K : Value → Prop} (B : B1 own h i b vs) (hi : vs[j]? = some x) (k : K x) : ldV h ((bk b).add j) K := ⟨x, B.ld hi, k⟩
section
variable {own own' : Own} {h h' : H} {bt br left wd m N v c : Nat} {es : Nat → Ed} {bs : Nat → Nat → Nat} {p q row : Nat → Int} {M : List Nat}
theorem Tb.fm (Tt : Tb own h bt left wd m es bs) (Fr : Fm M own h own' h') (hM : ∀ j, j ∈ M → 3 < j ∧ j < 40) : Tb own' h' bt left wd m es bs := by
  obtain ⟨vb, vc, vals, k1, k2, k3, kv⟩ := Tt.q
  exact ⟨vb, vc, vals, k1.fm Fr (fun h => by have := hM _ h; omega), k2.fm Fr (fun h => by have := hM _ h; omega), k3.fm Fr (fun h => by have := hM _ h; omega), fun v hv => (kv v hv).fm Fr (fun h => by have := hM _ h; omega)⟩
theorem Tb.nw {b j : Nat} (Tt : Tb own h bt left wd m es bs) (x : Ext h h') (hb : h b = none) : Tb (own1 own b j) h' bt left wd m es bs := Tt.fm (M := []) (Fm.new x hb) (by simp)
theorem weight_T (Tt : Tb own h bt left wd m es bs) (B : BsP left wd m es bs) (hv : v < left) (hc : c < wd) (hl : left + wd ≤ 1024) (hm : m ≤ 4096) {w : Int} (hw : w = (left : Int) + c) :
    T Tryz.prog F.assign_table_weight [.pointer (some (bk bt)), .int .i64 v, .int .i64 w] h fun r h' => r = .ret (.int .i64 (wgE es bs v c)) ∧ h = h' := by
  obtain ⟨vb, vc, vals, k1, k2, k3, kv⟩ := Tt.q
  subst hw
  have bm := B.bm v c hv hc
  refine E_assign_table_weight ?_
  unfold B_assign_table_weight
  refine ptrP_mk (ptrP_mk (k1.rV rfl (k2.rdV hv (k1.rI rfl ?_))))
  have e1 : IntKind.i64.wrap ((left : Int) + c - left) = c := by rw [show (left : Int) + c - left = c by omega]; exact w64_in (by omega) (by omega)
  rw [e1]
  refine (kv v hv).rdI hc (ifP_of (fun h1 => ?_) (fun h1 => ?_))
  · have h1 : 0 < bs v c := by have := of_decide_eq_true h1; omega
    have e2 : IntKind.i64.wrap ((bs v c : Int) - 1) = ((bs v c - 1 : Nat) : Int) := by rw [show ((bs v c : Int) - 1) = ((bs v c - 1 : Nat) : Int) by omega]; exact w64_in (by omega) (by omega)
    refine ptrP_mk (k1.rV rfl ?_)
    rw [e2]
    refine k3.rdI (by omega) ⟨?_, rfl⟩
    unfold wgE; rw [if_pos h1]
  · have h1 : ¬ 0 < bs v c := by have := of_decide_eq_false h1; omega
    refine ⟨?_, rfl⟩
    unfold wgE; rw [if_neg h1]
/-- What takes in rows, in the heap. -/
structure Rw (own : Own) (h : H) (br bt left wd N : Nat) (vp vq vr : Value) (p q row : Nat → Int) : Prop where
  k4 : B1 own h 4 br [.pointer (some (bk bt)), vp, vq, vr, .int .i64 wd]
  k5 : S1 own h 5 vp (ints left p)
  k6 : S1 own h 6 vq (ints N q)
  k7 : S1 own h 7 vr (ints N row)
theorem gap_T {vp vq vr : Value} {u : Nat} (Tt : Tb own h bt left wd m es bs) (B : BsP left wd m es bs) (k4 : B1 own h 4 br [.pointer (some (bk bt)), vp, vq, vr, .int .i64 wd]) (k5 : S1 own h 5 vp (ints left p)) (k6 : S1 own h 6 vq (ints N q))
    (hu : u < left) (hc : c < N) (hN : N = wd + left) (hl : left + wd ≤ 1024) (hm : m ≤ 4096)
    (hp : -1099511627776 ≤ p u ∧ p u ≤ 1099511627776) (hq : 0 ≤ q c ∧ q c ≤ 1099511627776) (hk : ∀ v c, 0 ≤ wgE es bs v c ∧ wgE es bs v c ≤ 1048576) :
    T Tryz.prog F.assign_rows_gap [.pointer (some (bk br)), .int .i64 u, .int .i64 c] h fun r h' => r = .ret (.int .i64 (if al wd u c then gp wd (wgE es bs) p q u c else -1)) ∧ h = h' := by
  refine E_assign_rows_gap ?_
  unfold B_assign_rows_gap
  have e0 : IntKind.i64.wrap (p u + q c) = p u + q c := w64_in (by omega) (by omega)
  refine ptrP_mk (k4.rI rfl (ifP_of (fun h1 => ?_) (fun h1 => ?_)))
  · have h1 : c < wd := by have := of_decide_eq_true h1; omega
    have hw := hk u c
    obtain ⟨vb, vc, vals, k1, _⟩ := Tt.q
    refine ptrP_mk (ptrP_mk (ptrP_mk (ptrP_mk (k4.rV rfl (k5.at (ints_get hu) fun a8 e8 => ⟨_, e8, k4.rV rfl (k6.at (ints_get hc) fun a11 e11 => ⟨_, e11, k4.rV rfl (k4.rV rfl (ptrP_mk (k1.rI rfl ?_)))⟩)⟩)))))
    have e1 : IntKind.i64.wrap ((c : Int) + left) = (left : Int) + c := by rw [Int.add_comm]; exact w64_in (by omega) (by omega)
    refine (weight_T Tt B hu h1 hl hm e1).mono ?_
    rintro _ _ ⟨rfl, rfl⟩
    have e2 : IntKind.i64.wrap (p u + q c - wgE es bs u c) = p u + q c - wgE es bs u c := w64_in (by omega) (by omega)
    refine rt_ret ⟨_, rfl, fun _ _ => rfl, fun _ _ => rfl, fun _ _ => rfl, fun _ _ => rfl, ?_, rfl⟩
    rw [e0, e2, if_pos (.inl h1), gp_eq]
    unfold wt; rw [if_pos h1]
  · have h1 : ¬ c < wd := by have := of_decide_eq_false h1; omega
    have e1 : IntKind.i64.wrap ((wd : Int) + u) = ((wd + u : Nat) : Int) := w64_in (by omega) (by omega)
    refine ptrP_mk (k4.rI rfl ?_)
    rw [e1]
    refine ifP_of (fun h2 => ?_) (fun h2 => ?_)
    · have h2 : c = wd + u := by have := of_decide_eq_true h2; omega
      refine ptrP_mk (ptrP_mk (k4.rV rfl (k5.rdI hu (k4.rV rfl (k6.rdI hc ⟨?_, rfl⟩)))))
      rw [e0, if_pos (.inr h2), gp_eq]
      unfold wt; rw [if_neg h1, Int.sub_zero]
    · have h2 : ¬ c = wd + u := by have := of_decide_eq_false h2; omega
      refine ⟨?_, rfl⟩
      rw [if_neg (by rintro (h | h) <;> omega)]
end

end Go.Proofs.YtdcamadeblojdaaGreat

namespace Go.Proofs.YtdcamadeblojdaaGreat
open Go
set_option linter.unusedVariables false
set_option linter.unusedSimpArgs false
set_option maxHeartbeats 1000000

theorem S1.cg {own : Own} {h : H} {i n : Nat} {v : Value} {f g : Nat → Int} (s : S1 own h i v (ints n f)) (e : ∀ j, j < n → f j = g j) : S1 own h i v (ints n g) := by rw [← ints_ext e]; exact s
theorem upd_to {f g : Nat → Int} {j : Nat} {x : Int} (hx : x = g j) (c : Nat) : upd (fun c => if c < j then g c else f c) j x c = if c < j + 1 then g c else f c := by
  by_cases e : c = j
  · subst e; rw [upd_at, if_pos (by omega), hx]
  · rw [upd_ne e]
    show (if c < j then g c else f c) = _
    by_cases h : c < j
    · rw [if_pos h, if_pos (by omega)]
    · rw [if_neg h, if_neg (by omega)]
section
variable {N wd v a j : Nat} {W : Nat → Nat → Int} {row p q least frm : Nat → Int} {done : Nat → Bool} {inn : Int}
theorem sc_no (h : ¬ (done j = false ∧ al wd a j ∧ gp wd W p q a j < least j)) (c : Nat) : scL N wd W p q least done a (j + 1) c = scL N wd W p q least done a j c ∧ scF N wd W p q least frm done a inn (j + 1) c = scF N wd W p q least frm done a inn j c := by
  unfold scL scF
  by_cases e : c = j
  · subst e
    exact ⟨(if_neg fun k => h k.2).trans (if_neg fun k => h k.2).symm, (if_neg fun k => h k.2).trans (if_neg fun k => h k.2).symm⟩
  · by_cases k : c < j ∧ done c = false ∧ al wd a c ∧ gp wd W p q a c < least c
    · exact ⟨(if_pos ⟨by omega, k.2⟩).trans (if_pos k).symm, (if_pos ⟨by omega, k.2⟩).trans (if_pos k).symm⟩
    · exact ⟨(if_neg fun k2 => k ⟨by omega, k2.2⟩).trans (if_neg k).symm, (if_neg fun k2 => k ⟨by omega, k2.2⟩).trans (if_neg k).symm⟩
theorem sc_yes (h : done j = false ∧ al wd a j ∧ gp wd W p q a j < least j) (c : Nat) : scL N wd W p q least done a (j + 1) c = upd (scL N wd W p q least done a j) j (gp wd W p q a j) c ∧ scF N wd W p q least frm done a inn (j + 1) c = upd (scF N wd W p q least frm done a inn j) j inn c := by
  by_cases e : c = j
  · subst e
    rw [upd_at, upd_at]
    unfold scL scF
    exact ⟨if_pos ⟨by omega, h⟩, if_pos ⟨by omega, h⟩⟩
  · rw [upd_ne e, upd_ne e]
    unfold scL scF
    by_cases k : c < j ∧ done c = false ∧ al wd a c ∧ gp wd W p q a c < least c
    · exact ⟨(if_pos ⟨by omega, k.2⟩).trans (if_pos k).symm, (if_pos ⟨by omega, k.2⟩).trans (if_pos k).symm⟩
    · exact ⟨(if_neg fun k2 => k ⟨by omega, k2.2⟩).trans (if_neg k).symm, (if_neg fun k2 => k ⟨by omega, k2.2⟩).trans (if_neg k).symm⟩
theorem scL_self : scL N wd W p q least done a j j = least j := by unfold scL; rw [if_neg (by omega)]
theorem upP_take {R : List Nat} (nd : R.Nodup) {less : Int} (hj : j < R.length) (u : Nat) : upP p (R.take (j + 1)) less u = upd (upP p (R.take j) less) R[j] (upP p (R.take j) less R[j] - less) u ∧ upP p (R.take j) less R[j] = p R[j] := by
  have nm : R[j] ∉ R.take j := fun h => by
    obtain ⟨i, hi, e⟩ := List.mem_iff_getElem.1 h
    rw [List.getElem_take] at e
    have hi2 : i < j := by rw [List.length_take] at hi; omega
    have := (List.getElem_inj (h₀ := by omega) (h₁ := hj) nd).1 e
    omega
  have e0 : upP p (R.take j) less R[j] = p R[j] := if_neg nm
  refine ⟨?_, e0⟩
  rw [e0]
  have tk : R.take (j + 1) = R.take j ++ [R[j]] := by rw [List.take_succ_eq_append_getElem hj]
  unfold upd
  by_cases e : u = R[j]
  · rw [if_pos e, e]
    unfold upP
    rw [if_pos (by rw [tk]; exact List.mem_append.2 (.inr (List.mem_singleton.2 rfl)))]
  · rw [if_neg e]
    unfold upP
    by_cases k : u ∈ R.take j
    · rw [if_pos k, if_pos (by rw [tk]; exact List.mem_append.2 (.inl k))]
    · rw [if_neg k, if_neg (by rw [tk, List.mem_append, List.mem_singleton]; rintro (h | h); exact k h; exact e h)]
end

section
variable {own : Own} {h : H} {bt br left wd m N v : Nat} {es : Nat → Ed} {bs : Nat → Nat → Nat} {p q row : Nat → Int} {vp vq vr : Value}
theorem take_T (Tt : Tb own h bt left wd m es bs) (B : BsP left wd m es bs) (R : Rw own h br bt left wd N vp vq vr p q row) (G : HgP N wd v (wgE es bs) p q row)
    (hv : v < left) (hN : N = wd + left) (hl : left + wd ≤ 1024) (hm : m ≤ 4096) (hk : ∀ v c, 0 ≤ wgE es bs v c ∧ wgE es bs v c ≤ 1048576) :
    T Tryz.prog F.assign_rows_take [.pointer (some (bk br)), .int .i64 v] h fun r h' => r = .ret (.tuple ⟨[]⟩) ∧ ∃ own' p' q' row', Fm [5, 6, 7, 8, 9, 10, 11] own h own' h' ∧ Rw own' h' br bt left wd N vp vq vr p' q' row' ∧
      HgP N wd (v + 1) (wgE es bs) p' q' row' := by
  obtain ⟨k4, k5, k6, k7⟩ := R
  have hwt : ∀ u c, 0 ≤ wt wd (wgE es bs) u c := fun u c => by unfold wt; split; exact (hk u c).1; exact Int.le_refl _
  refine E_assign_rows_take ?_
  unfold B_assign_rows_take
  refine ptrP_mk ⟨_, k4.ld rfl, k7.len (ints_length _ _) fun _ _ => ?_⟩
  refine mk_ints 8 (by omega) (by omega) ?_
  intro b6 h7 hb6 x6 k8
  have Ft : Fm [5, 6, 7, 8, 9, 10, 11] own h (own1 own b6 8) h7 := Fm.new x6 hb6
  have Tt := Tt.nw (j := 8) x6 hb6
  have k4 := k4.nw (j := 8) x6 hb6
  have k5 := k5.nw (j := 8) x6 hb6
  have k6 := k6.nw (j := 8) x6 hb6
  have k7 := k7.nw (j := 8) x6 hb6
  have k8 := k8 own
  generalize own1 own b6 8 = ow at *
  refine mk_ints 9 (by omega) (by omega) ?_
  intro b8 h9 hb8 x8 k9
  have Ft := Ft.trans (Fm.new (i := 9) x8 hb8)
  have Tt := Tt.nw (j := 9) x8 hb8
  have k4 := k4.nw (j := 9) x8 hb8
  have k5 := k5.nw (j := 9) x8 hb8
  have k6 := k6.nw (j := 9) x8 hb8
  have k7 := k7.nw (j := 9) x8 hb8
  have k8 := k8.nw (j := 9) x8 hb8
  have k9 := k9 ow
  generalize own1 ow b8 9 = ow at *
  refine mk_bools 10 (by omega) (by omega) ?_
  intro b10 h11 hb10 x10 k10
  have Ft := Ft.trans (Fm.new (i := 10) x10 hb10)
  have Tt := Tt.nw (j := 10) x10 hb10
  have k4 := k4.nw (j := 10) x10 hb10
  have k5 := k5.nw (j := 10) x10 hb10
  have k6 := k6.nw (j := 10) x10 hb10
  have k7 := k7.nw (j := 10) x10 hb10
  have k8 := k8.nw (j := 10) x10 hb10
  have k9 := k9.nw (j := 10) x10 hb10
  have k10 := k10 ow
  generalize own1 ow b10 10 = ow at *
  clear x6 hb6 x8 hb8 x10 hb10
  simp only [Int.toNat_natCast]
  -- nothing is known of the columns yet
  let I0 : (Int × Unit) → H → Nat → Prop := fun p_ g z => ∃ j : Nat, p_.1 = j ∧ j ≤ N ∧ z = N - j ∧ Fm [8, 9] ow h11 ow g ∧ S1 ow g 8 (.slice (some (bk b6)) N N) (ints N fun c => if c < j then farI else 0) ∧ S1 ow g 9 (.slice (some (bk b8)) N N) (ints N fun c => if c < j then -1 else 0)
  refine ⟨fun p q => ∃ k, I0 p q k, rk I0, rk_wf I0, ⟨_, 0, rfl, by omega, rfl, Fm.refl, k8.cg fun c _ => (if_neg (by omega)).symm, k9.cg fun c _ => (if_neg (by omega)).symm⟩, ?_⟩
  clear k8 k9
  intro p_ g hI
  obtain ⟨j, e1, hj, hz, Fq, k8, k9⟩ := mu_spec hI
  generalize hkk : mu I0 ((p_, ()), g) = km at *
  change p_ = (j : Int) at e1
  subst e1
  have hlt : j < N → N - (j + 1) < mu I0 (((j : Int), ()), g) := fun h => by rw [hkk, hz]; exact sub_dec h
  clear hI
  refine ifP_of (fun h1 => ?_) (fun h1 => ?_)
  · have hjN : j < N := by have := of_decide_eq_true h1; omega
    refine k8.setI hjN fun g1 F1 k8 => ?_
    have k9 := k9.fm F1 (by simp <;> omega)
    refine k9.setI hjN fun g2 F2 k9 => ?_
    have k8 := k8.fm F2 (by simp <;> omega)
    rw [i64_inc (by omega)]
    refine mu_next (I := I0) (k := N - (j + 1)) ⟨j + 1, rfl, hjN, rfl, (Fq.trans (F1.mono (by simp))).trans (F2.mono (by simp)), k8.cg fun c _ => upd_to (g := fun _ => farI) (f := fun _ => 0) rfl c, k9.cg fun c _ => upd_to (g := fun _ => -1) (f := fun _ => 0) rfl c⟩ (hlt hjN)
  have hjN : j = N := by have := of_decide_eq_false h1; omega
  have k8 : S1 ow g 8 (.slice (some (bk b6)) N N) (ints N fun _ => farI) := k8.cg fun c hc => if_pos (by omega)
  have k9 : S1 ow g 9 (.slice (some (bk b8)) N N) (ints N fun _ => -1) := k9.cg fun c hc => if_pos (by omega)
  have Ft := Ft.trans (Fq.mono (by simp))
  have Tt := Tt.fm Fq (by simp <;> omega)
  have k4 := k4.fm Fq (by simp <;> omega)
  have k5 := k5.fm Fq (by simp <;> omega)
  have k6 := k6.fm Fq (by simp <;> omega)
  have k7 := k7.fm Fq (by simp <;> omega)
  have k10 := k10.fm Fq (by simp <;> omega)
  clear hlt hkk hz h1 hj Fq
  -- its potential is as much as is needed
  refine ptrP_mk (k4.rI rfl ?_)
  have pv0 := G.p0 v (Nat.le_refl _)
  let I1 : (Int × Unit) → H → Nat → Prop := fun p_ g2 z => ∃ (c : Nat) (P : Int), p_.1 = c ∧ c ≤ wd ∧ z = wd - c ∧ Fm [5] ow g ow g2 ∧ S1 ow g2 5 vp (ints left (upd p v P)) ∧ (0 ≤ P ∧ P ≤ 1048576) ∧ ∀ c', c' < c → wgE es bs v c' ≤ P + q c'
  refine ⟨fun p q => ∃ k, I1 p q k, rk I1, rk_wf I1, ⟨_, 0, 0, rfl, by omega, rfl, Fm.refl, by rw [← pv0, upd_self]; exact k5, by omega, fun c' hc => by omega⟩, ?_⟩
  clear k5
  intro p_ g2 hI
  obtain ⟨c, P, e1, hc, hz, Fq, k5, hP, hPc⟩ := mu_spec hI
  generalize hkk : mu I1 ((p_, ()), g2) = km at *
  change p_ = (c : Int) at e1
  subst e1
  have hlt : c < wd → wd - (c + 1) < mu I1 (((c : Int), ()), g2) := fun h => by rw [hkk, hz]; exact sub_dec h
  clear hI
  refine ifP_of (fun h1 => ?_) (fun h1 => ?_)
  · have hcw : c < wd := by have := of_decide_eq_true h1; omega
    have Tq := Tt.fm Fq (by simp)
    have k4q := k4.fm Fq (by simp <;> omega)
    have k6q := k6.fm Fq (by simp <;> omega)
    obtain ⟨vb, vc, vals, k1, _⟩ := Tq.q
    have hw := hk v c
    have hq := G.q0 c (by omega)
    refine ptrP_mk (ptrP_mk (ptrP_mk (ptrP_mk (ptrP_mk (k4q.rV rfl (k4q.rV rfl (k5.at (ints_get hv) fun a33 e33 => ⟨_, e33, k4q.rV rfl (k4q.rV rfl (ptrP_mk (k1.rI rfl (k4q.rV rfl (k6q.at (ints_get (show c < N by omega)) fun a40 e40 => ⟨_, e40, ?_⟩)))))⟩)))))))
    have e1 : IntKind.i64.wrap ((c : Int) + left) = (left : Int) + c := by rw [Int.add_comm]; exact w64_in (by omega) (by omega)
    refine (weight_T Tq B hv hcw hl hm e1).mono ?_
    rintro _ _ ⟨rfl, rfl⟩
    refine rt_ret ⟨_, rfl, fun _ _ => rfl, fun _ _ => rfl, fun _ _ => rfl, fun _ _ => rfl, fun _ _ => rfl, ?_⟩
    have e2 : IntKind.i64.wrap (wgE es bs v c - q c) = wgE es bs v c - q c := w64_in (by omega) (by omega)
    rw [upd_at, e2]
    refine k5.setI hv fun g3 F3 k5 => ?_
    rw [i64_inc (by omega)]
    refine mu_next (I := I1) (k := wd - (c + 1)) ⟨c + 1, if P < wgE es bs v c - q c then wgE es bs v c - q c else P, rfl, hcw, rfl, Fq.trans F3, k5.cg fun u _ => ?_, ?_, fun c' hc' => ?_⟩ (hlt hcw)
    · unfold upd; split <;> rfl
    · split <;> omega
    · by_cases e : c' = c
      · subst e; split <;> omega
      · have := hPc c' (by omega)
        split <;> omega
  have hcw : c = wd := by have := of_decide_eq_false h1; omega
  have Ft := Ft.trans (Fq.mono (by simp))
  have Tt := Tt.fm Fq (by simp <;> omega)
  have k4 := k4.fm Fq (by simp <;> omega)
  have k6 := k6.fm Fq (by simp <;> omega)
  have k7 := k7.fm Fq (by simp <;> omega)
  have k8 := k8.fm Fq (by simp <;> omega)
  have k9 := k9.fm Fq (by simp <;> omega)
  have k10 := k10.fm Fq (by simp <;> omega)
  clear hlt hkk hz h1 hc Fq
  have q00 : q (wd + v) = 0 := by
    rcases G.ma (wd + v) (by omega) with ⟨_, h⟩ | ⟨u, h1, h2, h3, _⟩
    · exact h
    · rcases h3 with h3 | h3 <;> omega
  refine ptrP_mk (ptrP_mk (ptrP_mk (ptrP_mk (k4.rV rfl (k4.rV rfl (k5.rdI hv (k4.rV rfl (k4.rI rfl ?_))))))))
  have e1 : IntKind.i64.wrap ((wd : Int) + v) = ((wd + v : Nat) : Int) := w64_in (by omega) (by omega)
  rw [e1]
  refine k6.rdI (by omega) ?_
  have e2 : IntKind.i64.wrap (0 - q (wd + v)) = 0 := by rw [q00]; rfl
  rw [e2, upd_at, if_neg (by omega)]
  refine k5.setI hv fun g3 F3 k5 => ?_
  have Ft := Ft.trans (F3.mono (by simp))
  have Tt := Tt.fm F3 (by simp <;> omega)
  have k4 := k4.fm F3 (by simp <;> omega)
  have k6 := k6.fm F3 (by simp <;> omega)
  have k7 := k7.fm F3 (by simp <;> omega)
  have k8 := k8.fm F3 (by simp <;> omega)
  have k9 := k9.fm F3 (by simp <;> omega)
  have k10 := k10.fm F3 (by simp <;> omega)
  have k5 : S1 ow g3 5 vp (ints left (upd p v P)) := k5.cg fun u _ => by unfold upd; split <;> rfl
  refine new_bl ?_
  intro b63 g4 hb63 x63 B63
  have k11 : S1 (own1 ow b63 11) g4 11 (.slice (some (bk b63)) 1 1) (natV [v]) := .inr ⟨b63, own1_at, 1, B63.choose, [], rfl, B63.choose_spec, rfl⟩
  have Ft := Ft.trans (Fm.new (i := 11) x63 hb63)
  have Tt := Tt.nw (j := 11) x63 hb63
  have k4 := k4.nw (j := 11) x63 hb63
  have k5 := k5.nw (j := 11) x63 hb63
  have k6 := k6.nw (j := 11) x63 hb63
  have k7 := k7.nw (j := 11) x63 hb63
  have k8 := k8.nw (j := 11) x63 hb63
  have k9 := k9.nw (j := 11) x63 hb63
  have k10 := k10.nw (j := 11) x63 hb63
  generalize own1 ow b63 11 = ow at *
  have Tk0 := G.take pv0 hP (fun c hc ha => by
    have hq := (G.q0 c hc).1
    rcases ha with ha | ha
    · have := hPc c (by omega)
      unfold wt; rw [if_pos ha]; exact this
    · subst ha
      unfold wt; rw [if_neg (by omega)]; omega) (fun _ => 0)
  clear x63 hb63 B63 F3
  let I : (Value × Int × Int × Unit) → H → Nat → Prop := fun s g z => ∃ (t a : Nat) (ow : Own) (p q least frm : Nat → Int) (done : Nat → Bool) (rk_ : Nat → Nat) (Rl : List Nat), s.2.1 = a ∧ z = v + 1 - Rl.length ∧ Fm [5, 6, 7, 8, 9, 10, 11] own h ow g ∧
    Tb ow g bt left wd m es bs ∧ B1 ow g 4 br [.pointer (some (bk bt)), vp, vq, vr, .int .i64 wd] ∧ S1 ow g 5 vp (ints left p) ∧ S1 ow g 6 vq (ints N q) ∧ S1 ow g 7 vr (ints N row) ∧
    S1 ow g 8 (.slice (some (bk b6)) N N) (ints N least) ∧ S1 ow g 9 (.slice (some (bk b8)) N N) (ints N frm) ∧ S1 ow g 10 (.slice (some (bk b10)) N N) (bools N done) ∧ S1 ow g 11 s.1 (natV Rl) ∧
    TkP N wd v (wgE es bs) row P p q least frm done rk_ t Rl (fun u => u ∈ Rl ∧ u ≠ a) ∧ a ∈ Rl ∧ ((s.2.2.1 = -1 ∧ a = v) ∨ ∃ b : Nat, b < N ∧ s.2.2.1 = b ∧ done b = true ∧ row b = a)
  refine ⟨fun p q => ∃ k, I p q k, rk I, rk_wf I, ⟨_, 0, v, ow, _, _, _, _, _, _, [v], rfl, rfl, Ft, Tt, k4, k5, k6, k7, k8, k9, k10, k11, Tk0.wk (fun u h => h.2 (by simpa using h.1)), by simp, .inl ⟨rfl, rfl⟩⟩, ?_⟩
  clear Tk0 Ft Tt k4 k5 k6 k7 k8 k9 k10 k11 hPc q00 pv0 G
  intro reached at_ in_ g hI
  obtain ⟨t, a, ow, p, q, least, frm, done, rk_, Rl, e1, hz, Ft, Tt, k4, k5, k6, k7, k8, k9, k10, k11, Tk, ha, hin⟩ := mu_spec hI
  generalize hkk : mu I ((reached, at_, in_, ()), g) = km at *
  change at_ = (a : Int) at e1
  change S1 ow g 11 reached (natV Rl) at k11
  change (in_ = -1 ∧ a = v) ∨ ∃ b : Nat, b < N ∧ in_ = b ∧ done b = true ∧ row b = a at hin
  subst e1
  have hltO : ∀ R' : List Nat, R'.length = Rl.length + 1 → R'.length ≤ v + 1 → v + 1 - R'.length < mu I ((reached, (a : Int), in_, ()), g) := fun R' h1 h2 => by rw [hkk, hz, h1]; rw [h1] at h2; exact sub_dec h2
  clear hI
  have av := Tk.rlt ha
  have hNv : ∀ u, u < v + 1 → wd + u < N := fun u hu => by omega
  -- a look from a row
  let I1 : (Int × Unit) → H → Nat → Prop := fun s g2 z => ∃ j : Nat, s.1 = j ∧ j ≤ N ∧ z = N - j ∧ Fm [8, 9] ow g ow g2 ∧ S1 ow g2 8 (.slice (some (bk b6)) N N) (ints N (scL N wd (wgE es bs) p q least done a j)) ∧
    S1 ow g2 9 (.slice (some (bk b8)) N N) (ints N (scF N wd (wgE es bs) p q least frm done a in_ j))
  refine ⟨fun p q => ∃ k, I1 p q k, rk I1, rk_wf I1, ⟨_, 0, rfl, by omega, rfl, Fm.refl, k8.cg fun c _ => (if_neg (by omega)).symm, k9.cg fun c _ => (if_neg (by omega)).symm⟩, ?_⟩
  clear k8 k9
  intro p_ g2 hI
  obtain ⟨j, e1, hj, hz1, Fq, k8, k9⟩ := mu_spec hI
  generalize hkk1 : mu I1 ((p_, ()), g2) = km1 at *
  change p_ = (j : Int) at e1
  subst e1
  have hlt : j < N → N - (j + 1) < mu I1 (((j : Int), ()), g2) := fun h => by rw [hkk1, hz1]; exact sub_dec h
  clear hI
  refine ifP_of (fun h1 => ?_) (fun h1 => ?_)
  · have hjN : j < N := by have := of_decide_eq_true h1; omega
    have hpb := Tk.pb hNv av
    have hqb := Tk.q0 j hjN
    have hpv := Tk.pv
    refine (gap_T (Tt.fm Fq (by simp)) B (k4.fm Fq (by simp <;> omega)) (k5.fm Fq (by simp <;> omega)) (k6.fm Fq (by simp <;> omega)) (by omega) hjN hN hl hm (by omega) (by omega) hk).mono ?_
    rintro _ _ ⟨rfl, rfl⟩
    refine rt_ret ⟨_, rfl, (k10.fm Fq (by simp <;> omega)).rdB hjN ?_⟩
    have skip : ¬ (done j = false ∧ al wd a j ∧ gp wd (wgE es bs) p q a j < least j) → (∃ k, I1 ((IntKind.i64.wrap ((j : Int) + 1)), ()) g2 k) ∧ rk I1 (((IntKind.i64.wrap ((j : Int) + 1)), ()), g2) (((j : Int), ()), g2) := fun hno => by
      rw [i64_inc (by omega)]
      exact mu_next (I := I1) (k := N - (j + 1)) ⟨j + 1, rfl, hjN, rfl, Fq, k8.cg fun c _ => (sc_no (frm := frm) (inn := in_) hno c).1.symm, k9.cg fun c _ => (sc_no hno c).2.symm⟩ (hlt hjN)
    refine ifP_of (fun h2 => ?_) (fun h2 => skip fun k => by rw [k.1] at h2; cases h2)
    have hd : done j = false := by simpa using h2
    refine ifP_of (fun h3 => ?_) (fun h3 => skip fun k => by
      have h3 := of_decide_eq_false h3
      rw [if_pos k.2.1] at h3
      exact h3 (Tk.gp0 av hjN k.2.1))
    have h3 := of_decide_eq_true h3
    have hal : al wd a j := by
      by_cases e : al wd a j
      · exact e
      · rw [if_neg e] at h3; omega
    rw [if_pos hal]
    refine k8.rdI hjN ?_
    rw [scL_self]
    refine ifP_of (fun h4 => ?_) (fun h4 => skip fun k => by have := of_decide_eq_false h4; omega)
    have h4 := of_decide_eq_true h4
    refine k8.setI hjN fun g3 F1 k8 => ?_
    have k9 := k9.fm F1 (by simp <;> omega)
    refine k9.setI hjN fun g4 F2 k9 => ?_
    have k8 := k8.fm F2 (by simp <;> omega)
    rw [i64_inc (by omega)]
    exact mu_next (I := I1) (k := N - (j + 1)) ⟨j + 1, rfl, hjN, rfl, (Fq.trans (F1.mono (by simp))).trans (F2.mono (by simp)), k8.cg fun c _ => (sc_yes (frm := frm) (inn := in_) ⟨hd, hal, h4⟩ c).1.symm, k9.cg fun c _ => (sc_yes ⟨hd, hal, h4⟩ c).2.symm⟩ (hlt hjN)
  have hjN : j = N := by have := of_decide_eq_false h1; omega
  rw [hjN] at k8 k9
  have Tk1 := Tk.scan hin
  have Ft := Ft.trans (Fq.mono (by simp))
  have Tt := Tt.fm Fq (by simp <;> omega)
  have k4 := k4.fm Fq (by simp <;> omega)
  have k5 := k5.fm Fq (by simp <;> omega)
  have k6 := k6.fm Fq (by simp <;> omega)
  have k7 := k7.fm Fq (by simp <;> omega)
  have k10 := k10.fm Fq (by simp <;> omega)
  have k11 := k11.fm Fq (by simp <;> omega)
  clear hlt hkk1 hz1 h1 hj Fq hin hkk hz Tk
  generalize scL N wd (wgE es bs) p q least done a N = least1 at *
  generalize scF N wd (wgE es bs) p q least frm done a in_ N = frm1 at *
  have ow0 := Tk1.own (hNv v (by omega))
  -- the nearest column
  let I2 : (Int × Int × Unit) → H → Nat → Prop := fun s g3 z => ∃ j : Nat, s.2.1 = j ∧ j ≤ N ∧ z = N - j ∧ g3 = g2 ∧ ((s.1 = -1 ∧ ∀ c, c < j → done c = true) ∨ ∃ nx : Nat, s.1 = nx ∧ nx < j ∧ done nx = false ∧ ∀ c, c < j → done c = false → least1 nx ≤ least1 c)
  refine ⟨fun p q => ∃ k, I2 p q k, rk I2, rk_wf I2, ⟨_, 0, rfl, by omega, rfl, rfl, .inl ⟨rfl, fun c hc => by omega⟩⟩, ?_⟩
  intro nxt p_ g3 hI
  obtain ⟨j, e1, hj, hz1, e2, hn⟩ := mu_spec hI
  generalize hkk1 : mu I2 ((nxt, p_, ()), g3) = km1 at *
  change p_ = (j : Int) at e1
  change (nxt = -1 ∧ ∀ c, c < j → done c = true) ∨ ∃ nx : Nat, nxt = nx ∧ nx < j ∧ done nx = false ∧ ∀ c, c < j → done c = false → least1 nx ≤ least1 c at hn
  subst e1 e2
  have hlt : j < N → N - (j + 1) < mu I2 ((nxt, (j : Int), ()), g3) := fun h => by rw [hkk1, hz1]; exact sub_dec h
  clear hI
  refine ifP_of (fun h1 => ?_) (fun h1 => ?_)
  · have hjN : j < N := by have := of_decide_eq_true h1; omega
    rw [i64_inc (by omega)]
    refine k10.rdB hjN (ifP_of (fun h2 => ?_) (fun h2 => ?_))
    · have hd : done j = false := by simpa using h2
      refine ifP_of (fun h3 => ?_) (fun h3 => ?_)
      · have h3 := of_decide_eq_true h3
        refine mu_next (I := I2) (k := N - (j + 1)) ⟨j + 1, rfl, hjN, rfl, rfl, .inr ⟨j, rfl, by omega, hd, fun c hc hc2 => ?_⟩⟩ (hlt hjN)
        rcases hn with ⟨_, h4⟩ | ⟨nx, h4, _⟩
        · by_cases e : c = j
          · subst e; exact Int.le_refl _
          · have := h4 c (by omega); rw [hc2] at this; cases this
        · omega
      · have h3 := of_decide_eq_false h3
        rcases hn with ⟨h4, _⟩ | ⟨nx, rfl, h5, h6, h7⟩
        · omega
        refine k8.at (ints_get hjN) fun a1 e1 => k8.at (ints_get (show nx < N by omega)) fun a2 e2 => ⟨_, e1, _, e2, ifP_of (fun h8 => ?_) (fun h8 => ?_)⟩
        · have h8 := of_decide_eq_true h8
          refine mu_next (I := I2) (k := N - (j + 1)) ⟨j + 1, rfl, hjN, rfl, rfl, .inr ⟨j, rfl, by omega, hd, fun c hc hc2 => ?_⟩⟩ (hlt hjN)
          by_cases e : c = j
          · subst e; exact Int.le_refl _
          · have := h7 c (by omega) hc2; omega
        · have h8 := of_decide_eq_false h8
          refine mu_next (I := I2) (k := N - (j + 1)) ⟨j + 1, rfl, hjN, rfl, rfl, .inr ⟨nx, rfl, by omega, h6, fun c hc hc2 => ?_⟩⟩ (hlt hjN)
          by_cases e : c = j
          · subst e; omega
          · exact h7 c (by omega) hc2
    · have hd : done j = true := by simpa using h2
      refine mu_next (I := I2) (k := N - (j + 1)) ⟨j + 1, rfl, hjN, rfl, rfl, ?_⟩ (hlt hjN)
      rcases hn with ⟨h4, h5⟩ | ⟨nx, h4, h5, h6, h7⟩
      · refine .inl ⟨h4, fun c hc => ?_⟩
        by_cases e : c = j
        · subst e; exact hd
        · exact h5 c (by omega)
      · refine .inr ⟨nx, h4, by omega, h6, fun c hc hc2 => ?_⟩
        by_cases e : c = j
        · subst e; rw [hd] at hc2; cases hc2
        · exact h7 c (by omega) hc2
  have hjN : j = N := by have := of_decide_eq_false h1; omega
  rw [hjN] at hn
  clear hlt hkk1 hz1 h1 hj
  rcases hn with ⟨_, h4⟩ | ⟨nx, rfl, hnx, hd, hmin⟩
  · have := h4 _ (hNv v (by omega)); rw [ow0.1] at this; cases this
  refine k8.rdI hnx ?_
  have hpv := Tk1.pv
  have hlf : least1 nx < farI := by
    have h1 := hmin _ (hNv v (by omega)) ow0.1
    have h2 := Tk1.sc v ((Tk1.rr v).2 (.inl rfl)) _ (hNv v (by omega)) ow0.1 (.inr rfl)
    have e : wt wd (wgE es bs) v (wd + v) = 0 := by unfold wt; rw [if_neg (by omega)]
    rw [gp_eq, e, ow0.2] at h2
    have := farI_eq
    omega
  obtain ⟨l0, Tk2, lz⟩ := Tk1.upd hnx hd hlf hmin (hNv v (by omega)) hwt (by omega)
  have lb := Tk1.lb hwt (by omega) hnx hd hlf
  -- the rows' potentials
  refine k11.len (natV_length _) fun _ _ => ?_
  have Rlt : ∀ i, (hi : i < Rl.length) → Rl[i] < v + 1 := fun i hi => Tk1.rlt (List.getElem_mem hi)
  have Rln : Rl.length ≤ v + 1 := short Tk1.nd fun x hx => Tk1.rlt hx
  let I3 : (Int × Unit) → H → Nat → Prop := fun s g4 z => ∃ j : Nat, s.1 = j ∧ j ≤ Rl.length ∧ z = Rl.length - j ∧ Fm [5] ow g3 ow g4 ∧ S1 ow g4 5 vp (ints left (upP p (Rl.take j) (least1 nx)))
  refine ⟨fun p q => ∃ k, I3 p q k, rk I3, rk_wf I3, ⟨_, 0, rfl, by omega, rfl, Fm.refl, k5.cg fun u _ => by unfold upP; simp⟩, ?_⟩
  clear k5
  intro p_ g4 hI
  obtain ⟨j, e1, hj, hz1, Fq, k5⟩ := mu_spec hI
  generalize hkk1 : mu I3 ((p_, ()), g4) = km1 at *
  change p_ = (j : Int) at e1
  subst e1
  have hlt : j < Rl.length → Rl.length - (j + 1) < mu I3 (((j : Int), ()), g4) := fun h => by rw [hkk1, hz1]; exact sub_dec h
  clear hI
  refine ifP_of (fun h1 => ?_) (fun h1 => ?_)
  · have hjR : j < Rl.length := by have := of_decide_eq_true h1; omega
    have hRj := Rlt j hjR
    refine (k11.fm Fq (by simp <;> omega)).rd (natV_get hjR) (ptrP_mk ⟨_, (k4.fm Fq (by simp <;> omega)).ld rfl, k5.rdI (by omega) (k5.setI (by omega) fun g5 F1 k5 => ?_)⟩)
    have ut := fun u => upP_take (p := p) Tk1.nd (less := least1 nx) hjR u
    have pb := Tk1.pb hNv hRj
    have ew : IntKind.i64.wrap (upP p (Rl.take j) (least1 nx) Rl[j] - least1 nx) = upP p (Rl.take j) (least1 nx) Rl[j] - least1 nx := by
      rw [(ut 0).2]; exact w64_in (by omega) (by omega)
    rw [ew] at k5
    rw [i64_inc (by omega)]
    exact mu_next (I := I3) (k := Rl.length - (j + 1)) ⟨j + 1, rfl, hjR, rfl, Fq.trans F1, k5.cg fun u _ => (ut u).1.symm⟩ (hlt hjR)
  have hjR : j = Rl.length := by have := of_decide_eq_false h1; omega
  rw [hjR, List.take_length] at k5
  have Ft := Ft.trans (Fq.mono (by simp))
  have Tt := Tt.fm Fq (by simp <;> omega)
  have k4 := k4.fm Fq (by simp <;> omega)
  have k6 := k6.fm Fq (by simp <;> omega)
  have k7 := k7.fm Fq (by simp <;> omega)
  have k8 := k8.fm Fq (by simp <;> omega)
  have k9 := k9.fm Fq (by simp <;> omega)
  have k10 := k10.fm Fq (by simp <;> omega)
  have k11 := k11.fm Fq (by simp <;> omega)
  clear hlt hkk1 hz1 h1 hj Fq
  -- the columns'
  let I4 : (Int × Unit) → H → Nat → Prop := fun s g5 z => ∃ j : Nat, s.1 = j ∧ j ≤ N ∧ z = N - j ∧ Fm [6, 8] ow g4 ow g5 ∧ S1 ow g5 6 vq (ints N (upQ q done (least1 nx) j)) ∧ S1 ow g5 8 (.slice (some (bk b6)) N N) (ints N (upL least1 done (least1 nx) j))
  refine ⟨fun p q => ∃ k, I4 p q k, rk I4, rk_wf I4, ⟨_, 0, rfl, by omega, rfl, Fm.refl, k6.cg fun c _ => (if_neg (by omega)).symm, k8.cg fun c _ => (if_neg (by omega)).symm⟩, ?_⟩
  clear k6 k8
  intro p_ g5 hI
  obtain ⟨j, e1, hj, hz1, Fq, k6, k8⟩ := mu_spec hI
  generalize hkk1 : mu I4 ((p_, ()), g5) = km1 at *
  change p_ = (j : Int) at e1
  subst e1
  have hlt : j < N → N - (j + 1) < mu I4 (((j : Int), ()), g5) := fun h => by rw [hkk1, hz1]; exact sub_dec h
  clear hI
  refine ifP_of (fun h1 => ?_) (fun h1 => ?_)
  · have hjN : j < N := by have := of_decide_eq_true h1; omega
    have uq0 : upQ q done (least1 nx) j j = q j := if_neg (by omega)
    have ul0 : upL least1 done (least1 nx) j j = least1 j := if_neg (by omega)
    rw [i64_inc (by omega)]
    refine (k10.fm Fq (by simp <;> omega)).rdB hjN (ifP_of (fun h2 => ?_) (fun h2 => ?_))
    · refine ptrP_mk ⟨_, (k4.fm Fq (by simp <;> omega)).ld rfl, k6.rdI hjN (k6.setI hjN fun g6 F1 k6 => ?_)⟩
      have k8 := k8.fm F1 (by simp <;> omega)
      have qb := Tk1.q0 j hjN
      have ew : IntKind.i64.wrap (upQ q done (least1 nx) j j + least1 nx) = q j + least1 nx := by rw [uq0]; exact w64_in (by omega) (by omega)
      rw [ew] at k6
      refine mu_next (I := I4) (k := N - (j + 1)) ⟨j + 1, rfl, hjN, rfl, Fq.trans (F1.mono (by simp)), k6.cg fun c _ => ?_, k8.cg fun c _ => ?_⟩ (hlt hjN)
      · unfold upd upQ
        by_cases e : c = j
        · subst e; rw [if_pos rfl, if_pos ⟨by omega, h2⟩]
        · rw [if_neg e]
          by_cases h3 : c < j ∧ done c = true
          · rw [if_pos h3, if_pos ⟨by omega, h3.2⟩]
          · rw [if_neg h3, if_neg (fun h4 => h3 ⟨by omega, h4.2⟩)]
      · unfold upL
        by_cases e : c = j
        · subst e; rw [if_neg (by omega), if_neg (fun h4 => by rw [h2] at h4; cases h4.2.1)]
        · by_cases h3 : c < j ∧ done c = false ∧ least1 c < farI
          · rw [if_pos h3, if_pos ⟨by omega, h3.2⟩]
          · rw [if_neg h3, if_neg (fun h4 => h3 ⟨by omega, h4.2⟩)]
    · have uqs : ∀ c, upQ q done (least1 nx) j c = upQ q done (least1 nx) (j + 1) c := fun c => by
        unfold upQ
        by_cases e : c = j
        · subst e; rw [if_neg (by omega), if_neg (fun h4 => by rw [h2] at h4; cases h4.2)]
        · by_cases h3 : c < j ∧ done c = true
          · rw [if_pos h3, if_pos ⟨by omega, h3.2⟩]
          · rw [if_neg h3, if_neg (fun h4 => h3 ⟨by omega, h4.2⟩)]
      refine k8.rdI hjN ?_
      rw [ul0]
      refine ifP_of (fun h3 => ?_) (fun h3 => ?_)
      · have h3 := of_decide_eq_true h3
        have lbj := Tk1.lb hwt (by omega) hjN h2 h3
        refine k8.rdI hjN (k8.setI hjN fun g6 F1 k8 => ?_)
        have k6 := k6.fm F1 (by simp <;> omega)
        have ew : IntKind.i64.wrap (upL least1 done (least1 nx) j j - least1 nx) = least1 j - least1 nx := by rw [ul0]; exact w64_in (by omega) (by omega)
        rw [ew] at k8
        refine mu_next (I := I4) (k := N - (j + 1)) ⟨j + 1, rfl, hjN, rfl, Fq.trans (F1.mono (by simp)), k6.cg fun c _ => uqs c, k8.cg fun c _ => ?_⟩ (hlt hjN)
        unfold upd upL
        by_cases e : c = j
        · subst e; rw [if_pos rfl, if_pos ⟨by omega, h2, h3⟩]
        · rw [if_neg e]
          by_cases h4 : c < j ∧ done c = false ∧ least1 c < farI
          · rw [if_pos h4, if_pos ⟨by omega, h4.2⟩]
          · rw [if_neg h4, if_neg (fun h5 => h4 ⟨by omega, h5.2⟩)]
      · have h3 := of_decide_eq_false h3
        refine mu_next (I := I4) (k := N - (j + 1)) ⟨j + 1, rfl, hjN, rfl, Fq, k6.cg fun c _ => uqs c, k8.cg fun c _ => ?_⟩ (hlt hjN)
        unfold upL
        by_cases e : c = j
        · subst e; rw [if_neg (by omega), if_neg (fun h4 => h3 h4.2.2)]
        · by_cases h4 : c < j ∧ done c = false ∧ least1 c < farI
          · rw [if_pos h4, if_pos ⟨by omega, h4.2⟩]
          · rw [if_neg h4, if_neg (fun h5 => h4 ⟨by omega, h5.2⟩)]
  have hjN : j = N := by have := of_decide_eq_false h1; omega
  rw [hjN] at k6 k8
  have Ft := Ft.trans (Fq.mono (by simp))
  have Tt := Tt.fm Fq (by simp <;> omega)
  have k4 := k4.fm Fq (by simp <;> omega)
  have k5 := k5.fm Fq (by simp <;> omega)
  have k7 := k7.fm Fq (by simp <;> omega)
  have k9 := k9.fm Fq (by simp <;> omega)
  have k10 := k10.fm Fq (by simp <;> omega)
  have k11 := k11.fm Fq (by simp <;> omega)
  clear hlt hkk1 hz1 h1 hj Fq
  generalize upP p Rl (least1 nx) = p2 at *
  generalize upQ q done (least1 nx) N = q2 at *
  generalize upL least1 done (least1 nx) N = least2 at *
  refine k10.setB hnx fun g6 F1 k10 => ?_
  have Ft := Ft.trans (F1.mono (by simp))
  have Tt := Tt.fm F1 (by simp <;> omega)
  have k4 := k4.fm F1 (by simp <;> omega)
  have k5 := k5.fm F1 (by simp <;> omega)
  have k6 := k6.fm F1 (by simp <;> omega)
  have k7 := k7.fm F1 (by simp <;> omega)
  have k8 := k8.fm F1 (by simp <;> omega)
  have k9 := k9.fm F1 (by simp <;> omega)
  have k11 := k11.fm F1 (by simp <;> omega)
  clear F1
  refine ptrP_mk ⟨_, k4.ld rfl, k7.rdI hnx (ifP_of (fun h1 => ?_) (fun h1 => ?_))⟩
  · -- the way back
    have h1 := of_decide_eq_true h1
    have hr : row nx = -1 := by
      rcases Tk2.ma nx hnx with ⟨h, _⟩ | ⟨u, _, h, _⟩
      · exact h
      · omega
    have Hl := Tk2.hole hnx hd lz hr
    generalize (fun c => if c = nx then t else rk_ c) = rk2 at *
    let I5 : (Int × Unit) → H → Nat → Prop := fun s g7 z => ∃ row' : Nat → Int, Fm [7] ow g6 ow g7 ∧ S1 ow g7 7 vr (ints N row') ∧ ((s.1 = -1 ∧ z = 0 ∧ HgP N wd (v + 1) (wgE es bs) p2 q2 row') ∨ ∃ c : Nat, s.1 = c ∧ z = rk2 c + 1 ∧ HlP N wd v (wgE es bs) p2 q2 row' frm1 done rk2 c)
    refine ⟨fun p q => ∃ k, I5 p q k, rk I5, rk_wf I5, ⟨_, row, Fm.refl, k7, .inr ⟨nx, rfl, rfl, Hl⟩⟩, ?_⟩
    clear k7 Hl
    intro c g7 hI
    obtain ⟨row', Fq, k7, hc⟩ := mu_spec hI
    generalize hkk1 : mu I5 ((c, ()), g7) = km1 at *
    change (c = -1 ∧ _) ∨ ∃ c' : Nat, c = c' ∧ _ at hc
    clear hI
    refine ifP_of (fun h2 => ?_) (fun h2 => ?_)
    · have h2 := of_decide_eq_true h2
      rcases hc with ⟨h3, _⟩ | ⟨c, rfl, hz1, Hl⟩
      · omega
      refine (k9.fm Fq (by simp <;> omega)).rdI Hl.hh (ifP_of (fun h3 => ?_) (fun h3 => ?_))
      · have h3 := of_decide_eq_true h3
        have hm1 : frm1 c = -1 := by
          rcases Hl.tr c Hl.hh (.inl rfl) with ⟨h, _⟩ | ⟨b, u, h, _⟩ <;> omega
        refine ptrP_mk ⟨_, (k4.fm Fq (by simp <;> omega)).ld rfl, k7.setI Hl.hh fun g8 F1 k7 => ?_⟩
        exact mu_next (I := I5) (k := 0) ⟨_, Fq.trans F1, k7, .inl ⟨hm1, rfl, Hl.last h3⟩⟩ (by rw [hkk1, hz1]; omega)
      · have h3 := of_decide_eq_false h3
        obtain ⟨b, hb⟩ : ∃ b : Nat, frm1 c = b := ⟨(frm1 c).toNat, by omega⟩
        obtain ⟨Hl2, hrk, hbN⟩ := Hl.step hb
        rw [hb]
        refine ptrP_mk (ptrP_mk ⟨_, (k4.fm Fq (by simp <;> omega)).ld rfl, _, (k4.fm Fq (by simp <;> omega)).ld rfl, k7.rdI hbN (k7.setI Hl.hh fun g8 F1 k7 => ?_)⟩)
        exact mu_next (I := I5) (k := rk2 b + 1) ⟨_, Fq.trans F1, k7, .inr ⟨b, rfl, rfl, Hl2⟩⟩ (by rw [hkk1, hz1]; omega)
    · have h2 := of_decide_eq_false h2
      rcases hc with ⟨_, _, G⟩ | ⟨c, rfl, _⟩
      · exact ⟨by first | rfl | trivial, ow, p2, q2, row', Ft.trans (Fq.mono (by simp)), ⟨k4.fm Fq (by simp <;> omega), k5.fm Fq (by simp <;> omega), k6.fm Fq (by simp <;> omega), k7⟩, G⟩
      · omega
  · have h1 := of_decide_eq_false h1
    obtain ⟨a', ha'⟩ : ∃ a' : Nat, row nx = a' := ⟨(row nx).toNat, by omega⟩
    obtain ⟨Tk3, na, av'⟩ := Tk2.more hnx hd lz ha'
    refine ptrP_mk ⟨_, k4.ld rfl, k7.rdI hnx ?_⟩
    rw [ha']
    refine k11.push (l := 1) rfl (by simp [Value.oneCell']) (by simp) (by omega) (by rw [natV_length]; omega) ?_
    intro bx g7 r' ow' g8 hbx x7 F1 k11
    have Ft := Ft.trans (F1.mono (by simp))
    have Tt := Tt.fm F1 (by simp <;> omega)
    have k4 := k4.fm F1 (by simp <;> omega)
    have k5 := k5.fm F1 (by simp <;> omega)
    have k6 := k6.fm F1 (by simp <;> omega)
    have k7 := k7.fm F1 (by simp <;> omega)
    have k8 := k8.fm F1 (by simp <;> omega)
    have k9 := k9.fm F1 (by simp <;> omega)
    have k10 := k10.fm F1 (by simp <;> omega)
    refine mu_next (I := I) (k := v + 1 - (Rl ++ [a']).length) ⟨t + 1, a', ow', p2, q2, least2, frm1, _, _, Rl ++ [a'], rfl, rfl, Ft, Tt, k4, k5, k6, k7, k8, k9, k10, by simpa [natV] using k11, Tk3, by simp, .inr ⟨nx, hnx, rfl, by unfold updB; rw [if_pos rfl], ha'⟩⟩ (hltO _ (by simp) (short Tk3.nd fun x hx => Tk3.rlt hx))
end

end Go.Proofs.YtdcamadeblojdaaGreat

namespace Go.Proofs.YtdcamadeblojdaaGreat
open Go
set_option linter.unusedVariables false
set_option linter.unusedSimpArgs false
set_option maxHeartbeats 1000000

theorem ints_push_ {j : Nat} {f : Nat → Int} : ints (j + 1) f = ints j f ++ [.int .i64 (f j)] := by
  unfold ints; rw [List.range_succ, List.map_append]; rfl
/-- What a way of solving comes to. -/
def ByA (own : Own) (h : H) (left wd m : Nat) (es : Nat → Ed) (r : Res) (h' : H) : Prop :=
  ∃ (own' : Own) (mv pv : Value) (L : List Nat) (pt : Nat → Int), r = .ret (.tuple ⟨[mv, pv]⟩) ∧ Fm [4, 5, 6, 7, 8, 9, 10, 11, 12, 31, 32, 33, 34, 35, 36] own h own' h' ∧ S1 own' h' 12 mv (natV L) ∧ S1 own' h' 5 pv (ints (left + wd) pt) ∧ MaR (left + wd) m left es L pt
theorem ints_split {a b : Nat} {f : Nat → Int} : ints (a + b) f = ints a f ++ ints b fun i => f (a + i) := by
  induction b with
  | zero => simp [ints]
  | succ b ih => rw [show a + (b + 1) = a + b + 1 from rfl, ints_push_, ih, ints_push_, List.append_assoc]
theorem sliceV1_n {b c k : Nat} : sliceV (some (bk b)) c 0 (k : Int) 1 = .slice (some (bk b)) k c := by
  unfold sliceV
  split <;> simp [bk, Addr.add]
theorem S1.takeN {own : Own} {h : H} {i b n c a : Nat} {f : Nat → Int} (s : S1 own h i (.slice (some (bk b)) n c) (ints n f)) (ha : a ≤ n) : S1 own h i (.slice (some (bk b)) a c) (ints a f) := by
  rcases s with ⟨_, e⟩ | ⟨b', hb, c', e, zs, h1, h2, h3⟩
  · cases e
  · rw [Value.slice.injEq, Option.some.injEq] at h1
    obtain ⟨eb, _, rfl⟩ := h1
    have eb : b' = b := by simpa [bk] using eb.symm
    subst eb
    have et : ints n f = ints a f ++ (ints n f).drop a := by
      have : (ints n f).take a = ints a f := by
        unfold ints
        rw [← List.map_take, List.take_range, Nat.min_eq_left ha]
      rw [← this, List.take_append_drop]
    rw [ints_length] at h3
    refine .inr ⟨b', hb, c, e, (ints n f).drop a ++ zs, by rw [ints_length], ?_, ?_⟩
    · rw [← List.append_assoc, ← et]; exact h2
    · rw [ints_length, List.length_append, List.length_drop, ints_length]; omega
section
variable {own : Own} {h : H} {bt left wd m : Nat} {es : Nat → Ed} {bs : Nat → Nat → Nat}
theorem byRows_T (Tt : Tb own h bt left wd m es bs) (B : BsP left wd m es bs) (hs : ∀ i, i < m → lfE es i < left ∧ left ≤ rtE es i ∧ rtE es i < left + wd)
    (hl : left + wd ≤ 1024) (hm : m ≤ 4096) (hk : ∀ v c, 0 ≤ wgE es bs v c ∧ wgE es bs v c ≤ 1048576) :
    T Tryz.prog F.assign_table_byRows [.pointer (some (bk bt))] h (ByA own h left wd m es) := by
  have hN : left + wd = wd + left := Nat.add_comm _ _
  refine E_assign_table_byRows ?_
  unfold B_assign_table_byRows
  obtain ⟨vb, vc, vals, k1, _⟩ := Tt.q
  refine ptrP_mk (ptrP_mk ⟨_, k1.ld rfl, _, k1.ld rfl, ptrP_mk (ptrP_mk (ptrP_mk ⟨_, k1.ld rfl, _, k1.ld rfl, _, k1.ld rfl, ?_⟩))⟩)
  have ew : IntKind.i64.wrap (((left + wd : Nat) : Int) - left) = (wd : Int) := by rw [show ((left + wd : Nat) : Int) - left = wd by omega]; exact w64_in (by omega) (by omega)
  simp only [ew]
  clear k1
  refine mk_ints 5 (by omega) (by omega) ?_
  intro b11 h12 hb11 x11 k5
  have Ft : Fm [4, 5, 6, 7, 8, 9, 10, 11, 12, 31, 32, 33, 34, 35, 36] own h (own1 own b11 5) h12 := Fm.new x11 hb11
  have Tt := Tt.nw (j := 5) x11 hb11
  have k5 := k5 own
  generalize own1 own b11 5 = ow at *
  refine mk_ints 6 (by omega) (by omega) ?_
  intro b13 h14 hb13 x13 k6
  have Ft := Ft.trans (Fm.new (i := 6) x13 hb13)
  have Tt := Tt.nw (j := 6) x13 hb13
  have k5 := k5.nw (j := 6) x13 hb13
  have k6 := k6 ow
  generalize own1 ow b13 6 = ow at *
  refine mk_ints 7 (by omega) (by omega) ?_
  intro b15 h16 hb15 x15 k7
  have Ft := Ft.trans (Fm.new (i := 7) x15 hb15)
  have Tt := Tt.nw (j := 7) x15 hb15
  have k5 := k5.nw (j := 7) x15 hb15
  have k6 := k6.nw (j := 7) x15 hb15
  have k7 := k7 ow
  generalize own1 ow b15 7 = ow at *
  simp only [Int.toNat_natCast]
  refine oneP_ptr (new_bl ?_)
  intro b17 h18 hb17 x17 B17
  have Ft := Ft.trans (Fm.new (i := 4) x17 hb17)
  have k4 : B1 (own1 ow b17 4) h18 4 b17 _ := B1.new B17
  have Tt := Tt.nw (j := 4) x17 hb17
  have k5 := k5.nw (j := 4) x17 hb17
  have k6 := k6.nw (j := 4) x17 hb17
  have k7 := k7.nw (j := 4) x17 hb17
  generalize own1 ow b17 4 = ow at *
  clear hb11 x11 hb13 x13 hb15 x15 hb17 x17 B17
  refine ⟨_, k4.ld rfl, slcP_mk ?_⟩
  -- no column has a row
  let I0 : (Int × Unit) → H → Nat → Prop := fun s g z => ∃ j : Nat, s.1 = j ∧ j ≤ left + wd ∧ z = left + wd - j ∧ Fm [7] ow h18 ow g ∧ S1 ow g 7 (.slice (some (bk b15)) (left + wd) (left + wd)) (ints (left + wd) fun c => if c < j then -1 else 0)
  refine ⟨fun p q => ∃ k, I0 p q k, rk I0, rk_wf I0, ⟨_, 0, rfl, by omega, rfl, Fm.refl, k7.cg fun c _ => (if_neg (by omega)).symm⟩, ?_⟩
  clear k7
  intro s g hI
  obtain ⟨j, e1, hj, hz, Fq, k7⟩ := mu_spec hI
  generalize hkk : mu I0 ((s, ()), g) = km at *
  change s = (j : Int) at e1
  subst e1
  have hlt : j < left + wd → left + wd - (j + 1) < mu I0 (((j : Int), ()), g) := fun h => by rw [hkk, hz]; exact sub_dec h
  clear hI
  refine ifP_of (fun h1 => ?_) (fun h1 => ?_)
  · have hjN : j < left + wd := by have := of_decide_eq_true h1; omega
    refine ⟨_, (k4.fm Fq (by simp <;> omega)).ld rfl, k7.setI hjN fun g1 F1 k7 => ?_⟩
    rw [i64_inc (by omega)]
    refine mu_next (I := I0) (k := left + wd - (j + 1)) ⟨j + 1, rfl, hjN, rfl, Fq.trans F1, k7.cg fun c _ => upd_to (g := fun _ => -1) (f := fun _ => 0) rfl c⟩ (hlt hjN)
  have hjN : j = left + wd := by have := of_decide_eq_false h1; omega
  have k7 : S1 ow g 7 (.slice (some (bk b15)) (left + wd) (left + wd)) (ints (left + wd) fun _ => -1) := k7.cg fun c hc => if_pos (by omega)
  have Ft := Ft.trans (Fq.mono (by simp))
  have Tt := Tt.fm Fq (by simp <;> omega)
  have k4 := k4.fm Fq (by simp <;> omega)
  have k5 := k5.fm Fq (by simp <;> omega)
  have k6 := k6.fm Fq (by simp <;> omega)
  clear hlt hkk hz h1 hj Fq hjN
  have G0 : HgP (left + wd) wd 0 (wgE es bs) (fun _ => 0) (fun _ => 0) (fun _ => -1) := ⟨fun u hu => by omega, fun c hc => .inl ⟨rfl, rfl⟩, fun c c' hc hc' h => by omega, fun u hu => by omega, fun c hc => by show (0 : Int) ≤ 0 ∧ (0 : Int) ≤ (0 : Nat) * 1048576; omega, fun u _ => rfl, fun u hu => by omega⟩
  obtain ⟨vb, vc, vals, k1, _⟩ := Tt.q
  refine ptrP_mk ⟨_, k1.ld rfl, ?_⟩
  clear k1
  -- the rows
  let I1 : (Int × Unit) → H → Nat → Prop := fun s g z => ∃ (j : Nat) (ow : Own) (p q row : Nat → Int), s.1 = j ∧ j ≤ left ∧ z = left - j ∧ Fm [4, 5, 6, 7, 8, 9, 10, 11, 12, 31, 32, 33, 34, 35, 36] own h ow g ∧ Tb ow g bt left wd m es bs ∧
    Rw ow g b17 bt left wd (left + wd) (.slice (some (bk b11)) left left) (.slice (some (bk b13)) (left + wd) (left + wd)) (.slice (some (bk b15)) (left + wd) (left + wd)) p q row ∧ HgP (left + wd) wd j (wgE es bs) p q row
  refine ⟨fun p q => ∃ k, I1 p q k, rk I1, rk_wf I1, ⟨_, 0, ow, _, _, _, rfl, by omega, rfl, Ft, Tt, ⟨k4, k5, k6, k7⟩, G0⟩, ?_⟩
  clear Ft Tt k4 k5 k6 k7 G0
  intro s g hI
  obtain ⟨j, ow, p, q, row, e1, hj, hz, Ft, Tt, Rr, G⟩ := mu_spec hI
  generalize hkk : mu I1 ((s, ()), g) = km at *
  change s = (j : Int) at e1
  subst e1
  have hlt : j < left → left - (j + 1) < mu I1 (((j : Int), ()), g) := fun h => by rw [hkk, hz]; exact sub_dec h
  clear hI
  refine ifP_of (fun h1 => ?_) (fun h1 => ?_)
  · have hjl : j < left := by have := of_decide_eq_true h1; omega
    refine (take_T Tt B Rr G hjl hN hl hm hk).mono ?_
    rintro _ g1 ⟨rfl, ow', p', q', row', F1, Rr, G⟩
    rw [i64_inc (by omega)]
    exact rt_ret ⟨rfl, mu_next (I := I1) (k := left - (j + 1)) ⟨j + 1, ow', p', q', row', rfl, hjl, rfl, Ft.trans (F1.mono (by simp)), Tt.fm F1 (by simp), Rr, G⟩ (hlt hjl)⟩
  have hjl : j = left := by have := of_decide_eq_false h1; omega
  rw [hjl] at G
  clear hlt hkk hz h1 hj hjl
  obtain ⟨k4, k5, k6, k7⟩ := Rr
  have res := G.res hN hl B hs
  refine ⟨_, k4.ld rfl, slcP_mk ⟨by omega, by omega, by omega, by omega, ?_⟩⟩
  rw [sliceV1_n]
  have kr := k7.takeN (show wd ≤ left + wd by omega)
  refine kr.len (ints_length _ _) fun _ _ => ?_
  let I2 : (Value × Int × Unit) → H → Nat → Prop := fun s g2 z => ∃ (j : Nat) (ow2 : Own), s.2.1 = j ∧ j ≤ wd ∧ z = wd - j ∧ Fm [12] ow g ow2 g2 ∧ S1 ow2 g2 12 s.1 (natV (mlH bs row j))
  refine ⟨fun p q => ∃ k, I2 p q k, rk I2, rk_wf I2, ⟨_, 0, ow, rfl, by omega, rfl, Fm.refl, S1.nil⟩, ?_⟩
  intro mv s g2 hI
  obtain ⟨j, ow2, e1, hj, hz, Fq, k12⟩ := mu_spec hI
  generalize hkk : mu I2 ((mv, s, ()), g2) = km at *
  change s = (j : Int) at e1
  change S1 ow2 g2 12 mv _ at k12
  subst e1
  have hlt : j < wd → wd - (j + 1) < mu I2 ((mv, (j : Int), ()), g2) := fun h => by rw [hkk, hz]; exact sub_dec h
  clear hI
  have Tq := Tt.fm Fq (by simp)
  refine ifP_of (fun h1 => ?_) (fun h1 => ?_)
  · have hjw : j < wd := by have := of_decide_eq_true h1; omega
    rw [i64_inc (by omega)]
    have em : ¬ (0 ≤ row j ∧ 0 < bs (row j).toNat j) → mlH bs row (j + 1) = mlH bs row j := fun hno => by
      show mlH bs row j ++ (if 0 ≤ row j ∧ 0 < bs (row j).toNat j then [bs (row j).toNat j - 1] else []) = _
      rw [if_neg hno, List.append_nil]
    have skip : ¬ (0 ≤ row j ∧ 0 < bs (row j).toNat j) → (∃ k, I2 (mv, ((j + 1 : Nat) : Int), ()) g2 k) ∧ rk I2 ((mv, ((j + 1 : Nat) : Int), ()), g2) ((mv, (j : Int), ()), g2) := fun hno =>
      mu_next (I := I2) (k := wd - (j + 1)) ⟨j + 1, ow2, rfl, hjw, rfl, Fq, by show S1 ow2 g2 12 mv (natV (mlH bs row (j + 1))); rw [em hno]; exact k12⟩ (hlt hjw)
    refine (kr.fm Fq (by simp <;> omega)).rdI hjw (ifP_of (fun h2 => ?_) (fun h2 => skip fun k => by have := of_decide_eq_false h2; omega))
    have h2 := of_decide_eq_true h2
    obtain ⟨u, hu⟩ : ∃ u : Nat, row j = u := ⟨(row j).toNat, by omega⟩
    have hul : u < left := by
      rcases G.rc (c := j) (by omega) with h | ⟨_, h⟩ <;> omega
    rw [hu]
    obtain ⟨vb, vc, vals, k1, k2, k3, kv⟩ := Tq.q
    have bm := B.bm u j hul hjw
    refine ptrP_mk ⟨_, k1.ld rfl, k2.rdV hul ((kv u hul).rdI hjw (ifP_of (fun h3 => ?_) (fun h3 => skip fun k => by
      have := of_decide_eq_false h3
      rw [hu, Int.toNat_natCast] at k; omega)))⟩
    have h3 : 0 < bs u j := by have := of_decide_eq_true h3; omega
    refine ptrP_mk ⟨_, k1.ld rfl, k2.rdV hul ((kv u hul).rdI hjw ?_)⟩
    have e2 : IntKind.i64.wrap ((bs u j : Int) - 1) = ((bs u j - 1 : Nat) : Int) := by rw [show ((bs u j : Int) - 1) = ((bs u j - 1 : Nat) : Int) by omega]; exact w64_in (by omega) (by omega)
    rw [e2]
    have ml := mlH_len (bs := bs) (row := row) (j := j)
    refine k12.push (l := 1) rfl (by simp [Value.oneCell']) (by simp) (by omega) (by rw [natV_length]; omega) ?_
    intro bx g3 r' ow' g4 hbx x7 F1 k12
    refine mu_next (I := I2) (k := wd - (j + 1)) ⟨j + 1, ow', rfl, hjw, rfl, Fq.trans F1, ?_⟩ (hlt hjw)
    show S1 ow' g4 12 r' (natV (mlH bs row j ++ (if 0 ≤ row j ∧ 0 < bs (row j).toNat j then [bs (row j).toNat j - 1] else [])))
    rw [if_pos (by rw [hu, Int.toNat_natCast]; exact ⟨by omega, h3⟩), hu, Int.toNat_natCast]
    simpa [natV] using k12
  have hjw : j = wd := by have := of_decide_eq_false h1; omega
  rw [hjw] at k12
  have Ft := Ft.trans (Fq.mono (by simp))
  have k4 := k4.fm Fq (by simp <;> omega)
  have k5 := k5.fm Fq (by simp <;> omega)
  have k6 := k6.fm Fq (by simp <;> omega)
  have kr := kr.fm Fq (by simp <;> omega)
  clear hlt hkk hz h1 hj Fq hjw k7 Tq Tt
  -- the potentials
  refine ⟨_, k4.ld rfl, slcP_mk ?_⟩
  let I3 : (Int × Unit) → H → Nat → Prop := fun s g3 z => ∃ j : Nat, s.1 = j ∧ j ≤ left ∧ z = left - j ∧ Fm [5] ow2 g2 ow2 g3 ∧ S1 ow2 g3 5 (.slice (some (bk b11)) left left) (ints left fun u => if u < j then (if p u < 0 then 0 else p u) else p u)
  refine ⟨fun p q => ∃ k, I3 p q k, rk I3, rk_wf I3, ⟨_, 0, rfl, by omega, rfl, Fm.refl, k5.cg fun u _ => (if_neg (by omega)).symm⟩, ?_⟩
  clear k5
  intro s g3 hI
  obtain ⟨j, e1, hj, hz, Fq, k5⟩ := mu_spec hI
  generalize hkk : mu I3 ((s, ()), g3) = km at *
  change s = (j : Int) at e1
  subst e1
  have hlt : j < left → left - (j + 1) < mu I3 (((j : Int), ()), g3) := fun h => by rw [hkk, hz]; exact sub_dec h
  clear hI
  refine ifP_of (fun h1 => ?_) (fun h1 => ?_)
  · have hjl : j < left := by have := of_decide_eq_true h1; omega
    have k4q := k4.fm Fq (by simp <;> omega)
    refine ⟨_, k4q.ld rfl, _, k4q.ld rfl, k5.rdI hjl (k5.setI hjl fun g4 F1 k5 => ?_)⟩
    rw [i64_inc (by omega)]
    refine mu_next (I := I3) (k := left - (j + 1)) ⟨j + 1, rfl, hjl, rfl, Fq.trans F1, k5.cg fun u _ => upd_to (g := fun u => if p u < 0 then 0 else p u) (f := p) (by rw [if_neg (Nat.lt_irrefl _)]) u⟩ (hlt hjl)
  have hjl : j = left := by have := of_decide_eq_false h1; omega
  have Ft := Ft.trans (Fq.mono (by simp))
  have k4 := k4.fm Fq (by simp <;> omega)
  have k6 := k6.fm Fq (by simp <;> omega)
  have k12 := k12.fm Fq (by simp <;> omega)
  refine ⟨_, k4.ld rfl, _, k4.ld rfl, slcP_mk ⟨by omega, by omega, by omega, by omega, ?_⟩⟩
  rw [sliceV1_n]
  have kq := k6.takeN (show wd ≤ left + wd by omega)
  refine k5.catR (RS.of_S1 kq) (ints_o1 _ _) (by omega) (by rw [ints_length, ints_length]; omega) ?_
  intro pv ow' g5 F1 k5
  have Ft := Ft.trans (F1.mono (by simp))
  have k12 := k12.fm F1 (by simp <;> omega)
  refine ⟨ow', mv, pv, _, _, rfl, Ft, k12, ?_, res⟩
  have e : (ints left fun u => if u < j then (if p u < 0 then 0 else p u) else p u) ++ ints wd q = ints (left + wd) (ptH left p q) := by
    rw [ints_split]
    congr 1
    · refine ints_ext fun u hu => ?_
      unfold ptH
      rw [if_pos (by omega), if_pos hu]
    · refine ints_ext fun c _ => ?_
      unfold ptH
      rw [if_neg (by omega), show left + c - left = c by omega]
  rw [← e]; exact k5
end

end Go.Proofs.YtdcamadeblojdaaGreat

namespace Go.Proofs.YtdcamadeblojdaaGreat
open Go
set_option linter.unusedVariables false
set_option linter.unusedSimpArgs false

theorem ahd_nt {key : Nat → Int} {a b c : Nat} (h1 : ¬ ahd key a b) (h2 : ¬ ahd key b c) : ¬ ahd key a c := by unfold ahd at *; omega
theorem ahd_as {key : Nat → Int} {a b : Nat} (h1 : ahd key a b) : ¬ ahd key b a := by unfold ahd at *; omega
/-- All k places hold what A says, each below its parent. -/
structure HpP (k : Nat) (hp : Nat → Nat) (pl : Nat → Int) (A : Nat → Prop) (key : Nat → Int) : Prop where
  in_ : ∀ j, j < k → A (hp j) ∧ pl (hp j) = j
  on : ∀ v, A v → ∃ j, j < k ∧ hp j = v
  od : ∀ j, 0 < j → j < k → ¬ ahd key (hp j) (hp ((j - 1) / 2))
/-- The place i is free; x is to be put in. -/
structure HoP (k : Nat) (hp : Nat → Nat) (pl : Nat → Int) (A : Nat → Prop) (key : Nat → Int) (i x : Nat) : Prop where
  ik : i < k
  ax : A x
  in_ : ∀ j, j < k → j ≠ i → A (hp j) ∧ hp j ≠ x ∧ pl (hp j) = j
  on : ∀ v, A v → v = x ∨ ∃ j, j < k ∧ j ≠ i ∧ hp j = v
  od : ∀ j, 0 < j → j < k → j ≠ i → (j - 1) / 2 ≠ i → ¬ ahd key (hp j) (hp ((j - 1) / 2))
  gp : ∀ j, 0 < j → j < k → (j - 1) / 2 = i → 0 < i → ¬ ahd key (hp j) (hp ((i - 1) / 2))
def UpP (k : Nat) (hp : Nat → Nat) (key : Nat → Int) (i x : Nat) : Prop := ∀ j, 0 < j → j < k → (j - 1) / 2 = i → ¬ ahd key (hp j) x
def DnP (hp : Nat → Nat) (key : Nat → Int) (i x : Nat) : Prop := 0 < i → ¬ ahd key x (hp ((i - 1) / 2))
section
variable {k i x : Nat} {hp : Nat → Nat} {pl : Nat → Int} {A : Nat → Prop} {key : Nat → Int}
theorem HpP.inj (G : HpP k hp pl A key) {a b : Nat} (ha : a < k) (hb : b < k) (e : hp a = hp b) : a = b := by
  have h1 := (G.in_ a ha).2
  have h2 := (G.in_ b hb).2
  rw [e] at h1; omega
theorem HoP.inj (G : HoP k hp pl A key i x) {a b : Nat} (ha : a < k) (hb : b < k) (na : a ≠ i) (nb : b ≠ i) (e : hp a = hp b) : a = b := by
  have h1 := (G.in_ a ha na).2.2
  have h2 := (G.in_ b hb nb).2.2
  rw [e] at h1; omega
/-- The first is ahead of all. -/
theorem HpP.top (G : HpP k hp pl A key) : ∀ j, j < k → hp 0 = hp j ∨ ahd key (hp 0) (hp j) := by
  intro j
  induction j using Nat.strongRecOn with
  | ind j ih =>
    intro hj
    by_cases h0 : j = 0
    · subst h0; exact .inl rfl
    have h1 := ih ((j - 1) / 2) (by omega) (by omega)
    have h2 := G.od j (by omega) hj
    have ne : hp ((j - 1) / 2) ≠ hp j := fun e => by have := G.inj (by omega) hj e; omega
    have h3 : ahd key (hp ((j - 1) / 2)) (hp j) := by unfold ahd at *; omega
    rcases h1 with h1 | h1
    · rw [h1]; exact .inr h3
    · exact .inr (ahd_tr h1 h3)
theorem HoP.fill (G : HoP k hp pl A key i x) (u : UpP k hp key i x) (d : DnP hp key i x) : HpP k (updN hp i x) (upd pl x i) A key := by
  refine ⟨fun j hj => ?_, fun v hv => ?_, fun j h0 hj => ?_⟩
  · by_cases e : j = i
    · subst e; rw [updN_at, upd_at]; exact ⟨G.ax, rfl⟩
    · obtain ⟨h1, h2, h3⟩ := G.in_ j hj e
      rw [updN_ne e, upd_ne h2]; exact ⟨h1, h3⟩
  · rcases G.on v hv with rfl | ⟨j, hj, hne, e⟩
    · exact ⟨i, G.ik, updN_at⟩
    · exact ⟨j, hj, by rw [updN_ne hne]; exact e⟩
  · by_cases e : j = i
    · subst e
      rw [updN_at, updN_ne (by omega)]; exact d h0
    · rw [updN_ne e]
      by_cases e2 : (j - 1) / 2 = i
      · rw [e2, updN_at]; exact u j h0 hj e2
      · rw [updN_ne e2]; exact G.od j h0 hj e e2
/-- The hole goes up. -/
theorem HoP.up (G : HoP k hp pl A key i x) (u : UpP k hp key i x) (h0 : 0 < i) (ha : ahd key x (hp ((i - 1) / 2))) :
    HoP k (updN hp i (hp ((i - 1) / 2))) (upd pl (hp ((i - 1) / 2)) i) A key ((i - 1) / 2) x ∧ UpP k (updN hp i (hp ((i - 1) / 2))) key ((i - 1) / 2) x := by
  have ik := G.ik
  generalize hp_ : (i - 1) / 2 = p at *
  have pi : p ≠ i := by omega
  have pk : p < k := by omega
  obtain ⟨a1, a2, a3⟩ := G.in_ p pk pi
  have ne : ∀ j, j ≠ i → updN hp i (hp p) j = hp j := fun j h => updN_ne h
  refine ⟨⟨pk, G.ax, fun j hj hne => ?_, fun v hv => ?_, fun j h1 hj n1 n2 => ?_, fun j h1 hj e1 h2 => ?_⟩, fun j h1 hj e1 => ?_⟩
  · by_cases e : j = i
    · subst e; rw [updN_at, upd_at]; exact ⟨a1, a2, rfl⟩
    · obtain ⟨b1, b2, b3⟩ := G.in_ j hj e
      rw [ne j e, upd_ne (fun e2 => hne (G.inj hj pk e pi e2))]; exact ⟨b1, b2, b3⟩
  · rcases G.on v hv with h | ⟨j, hj, hne, e⟩
    · exact .inl h
    · by_cases e2 : j = p
      · subst e2; exact .inr ⟨i, ik, fun h => pi h.symm, by rw [updN_at]; exact e⟩
      · exact .inr ⟨j, hj, e2, by rw [ne j hne]; exact e⟩
  · by_cases e : j = i
    · subst e; exact absurd hp_ n2
    · rw [ne j e]
      by_cases e2 : (j - 1) / 2 = i
      · rw [e2, updN_at]
        have := G.gp j h1 hj e2 h0
        rwa [hp_] at this
      · rw [ne _ e2]; exact G.od j h1 hj e e2
  · have pp : (p - 1) / 2 ≠ i := by omega
    rw [ne _ pp]
    have op := G.od p h2 pk pi pp
    by_cases e : j = i
    · subst e; rw [updN_at]; exact op
    · rw [ne j e]
      have := G.od j h1 hj e (by rw [e1]; exact pi)
      rw [e1] at this
      exact ahd_nt this op
  · by_cases e : j = i
    · subst e; rw [updN_at]; exact ahd_as ha
    · rw [ne j e]
      have := G.od j h1 hj e (by rw [e1]; exact pi)
      rw [e1] at this
      exact fun h => this (ahd_tr h ha)
/-- The hole goes down. -/
theorem HoP.down (G : HoP k hp pl A key i x) (c : Nat) (hc : c < k) (hi : (c - 1) / 2 = i) (h0 : 0 < c) (ha : ahd key (hp c) x) (hm : ∀ j, 0 < j → j < k → (j - 1) / 2 = i → ¬ ahd key (hp j) (hp c)) :
    HoP k (updN hp i (hp c)) (upd pl (hp c) i) A key c x ∧ DnP (updN hp i (hp c)) key c x := by
  have ik := G.ik
  have ci : c ≠ i := by omega
  obtain ⟨a1, a2, a3⟩ := G.in_ c hc ci
  have ne : ∀ j, j ≠ i → updN hp i (hp c) j = hp j := fun j h => updN_ne h
  refine ⟨⟨hc, G.ax, fun j hj hne => ?_, fun v hv => ?_, fun j h1 hj n1 n2 => ?_, fun j h1 hj e1 h2 => ?_⟩, fun h1 => ?_⟩
  · by_cases e : j = i
    · subst e; rw [updN_at, upd_at]; exact ⟨a1, a2, rfl⟩
    · obtain ⟨b1, b2, b3⟩ := G.in_ j hj e
      rw [ne j e, upd_ne (fun e2 => hne (G.inj hj hc e ci e2))]; exact ⟨b1, b2, b3⟩
  · rcases G.on v hv with h | ⟨j, hj, hne, e⟩
    · exact .inl h
    · by_cases e2 : j = c
      · subst e2; exact .inr ⟨i, ik, fun h => ci h.symm, by rw [updN_at]; exact e⟩
      · exact .inr ⟨j, hj, e2, by rw [ne j hne]; exact e⟩
  · by_cases e : j = i
    · subst e
      rw [updN_at, ne _ (by omega)]
      exact G.gp c h0 hc hi h1
    · rw [ne j e]
      by_cases e2 : (j - 1) / 2 = i
      · rw [e2, updN_at]; exact hm j h1 hj e2
      · rw [ne _ e2]; exact G.od j h1 hj e e2
  · rw [hi, updN_at, ne j (by omega)]
    have := G.od j h1 hj (by omega) (by rw [e1]; exact ci)
    rwa [e1] at this
  · rw [hi, updN_at]; exact ahd_as ha
/-- One more is put behind all. -/
theorem HpP.more (G : HpP k hp pl A key) (hx : ¬ A x) : HoP (k + 1) hp pl (fun v => A v ∨ v = x) key k x ∧ UpP (k + 1) hp key k x := by
  refine ⟨⟨by omega, .inr rfl, fun j hj hne => ?_, fun v hv => ?_, fun j h0 hj n1 n2 => G.od j h0 (by omega), fun j h0 hj e1 h2 => by omega⟩, fun j h0 hj e1 => by omega⟩
  · obtain ⟨h1, h2⟩ := G.in_ j (by omega)
    exact ⟨.inl h1, fun e => hx (e ▸ h1), h2⟩
  · rcases hv with hv | hv
    · obtain ⟨j, hj, e⟩ := G.on v hv
      exact .inr ⟨j, by omega, by omega, e⟩
    · exact .inl hv
/-- A key is lowered. -/
theorem HpP.low {key' : Nat → Int} (G : HpP k hp pl A key) (hi : i < k) (hk : key' (hp i) ≤ key (hp i)) (ho : ∀ v, v ≠ hp i → key' v = key v) : HoP k hp pl A key' i (hp i) ∧ UpP k hp key' i (hp i) := by
  have ni : ∀ j, j < k → j ≠ i → hp j ≠ hp i := fun j hj hne e => hne (G.inj hj hi e)
  refine ⟨⟨hi, (G.in_ i hi).1, fun j hj hne => ⟨(G.in_ j hj).1, ni j hj hne, (G.in_ j hj).2⟩, fun v hv => ?_, fun j h0 hj n1 n2 => ?_, fun j h0 hj e1 h2 => ?_⟩, fun j h0 hj e1 => ?_⟩
  · obtain ⟨j, hj, e⟩ := G.on v hv
    by_cases h : j = i
    · subst h; exact .inl e.symm
    · exact .inr ⟨j, hj, h, e⟩
  · have := G.od j h0 hj
    unfold ahd at *
    rw [ho _ (ni j hj n1), ho _ (ni _ (by omega) n2)]; exact this
  · have h3 := G.od j h0 hj
    have h4 := G.od i h2 hi
    rw [e1] at h3
    have h5 := ahd_nt h3 h4
    unfold ahd at *
    rw [ho _ (ni j hj (by omega)), ho _ (ni _ (by omega) (by omega))]; exact h5
  · have h3 := G.od j h0 hj
    rw [e1] at h3
    unfold ahd at *
    rw [ho _ (ni j hj (by omega))]; omega
/-- The first is taken out; the last is to be put in again. -/
theorem HpP.take (G : HpP (k + 1) hp pl A key) (hk : 0 < k) : HoP k hp pl (fun v => A v ∧ v ≠ hp 0) key 0 (hp k) ∧ DnP hp key 0 (hp k) := by
  have ni : ∀ a b, a < k + 1 → b < k + 1 → a ≠ b → hp a ≠ hp b := fun a b ha hb hne e => hne (G.inj ha hb e)
  refine ⟨⟨hk, ⟨(G.in_ k (by omega)).1, ni _ _ (by omega) (by omega) (by omega)⟩, fun j hj hne => ⟨⟨(G.in_ j (by omega)).1, ni _ _ (by omega) (by omega) hne⟩, ni _ _ (by omega) (by omega) (by omega), (G.in_ j (by omega)).2⟩, fun v hv => ?_, fun j h0 hj n1 n2 => G.od j h0 (by omega), fun j h0 hj e1 h2 => by omega⟩, fun h => by omega⟩
  obtain ⟨j, hj, e⟩ := G.on v hv.1
  have j0 : j ≠ 0 := fun h => by subst h; exact hv.2 e.symm
  by_cases h : j = k
  · subst h; exact .inl e.symm
  · exact .inr ⟨j, by omega, j0, e⟩
theorem HpP.last (G : HpP 1 hp pl A key) : HpP 0 hp pl (fun v => A v ∧ v ≠ hp 0) key := by
  refine ⟨fun j hj => by omega, fun v hv => ?_, fun j h0 hj => by omega⟩
  obtain ⟨j, hj, e⟩ := G.on v hv.1
  have : j = 0 := by omega
  subst this
  exact absurd e.symm hv.2
theorem HpP.uset {A' : Nat → Prop} (G : HpP k hp pl A key) (h : ∀ v, A' v ↔ A v) : HpP k hp pl A' key := ⟨fun j hj => ⟨(h _).2 (G.in_ j hj).1, (G.in_ j hj).2⟩, fun v hv => G.on v ((h v).1 hv), G.od⟩
theorem HpP.rekey {key' : Nat → Int} (G : HpP k hp pl A key) (h : ∀ v, A v → key' v = key v) : HpP k hp pl A key' := ⟨G.in_, G.on, fun j h0 hj => by
  have := G.od j h0 hj
  unfold ahd at *
  rw [h _ (G.in_ j hj).1, h _ (G.in_ _ (by omega)).1]; exact this⟩
end

end Go.Proofs.YtdcamadeblojdaaGreat

namespace Go.Proofs.YtdcamadeblojdaaGreat
open Go
open Classical
set_option linter.unusedVariables false
set_option linter.unusedSimpArgs false
set_option maxHeartbeats 1000000

theorem methPushB (a : Addr) (w : World) : (method (Tryz.prog.types.size + Made.depth) 145 (.pointer (some a)) "compass/heaps.push").run Tryz.prog w = .ok (F.heaps_binary_push, .pointer (some a)) w := by kernel_rfl
theorem methLowerB (a : Addr) (w : World) : (method (Tryz.prog.types.size + Made.depth) 145 (.pointer (some a)) "compass/heaps.lower").run Tryz.prog w = .ok (F.heaps_binary_lower, .pointer (some a)) w := by kernel_rfl
theorem methTopB (a : Addr) (w : World) : (method (Tryz.prog.types.size + Made.depth) 145 (.pointer (some a)) "compass/heaps.top").run Tryz.prog w = .ok (F.heaps_binary_top, .pointer (some a)) w := by kernel_rfl
theorem methPopB (a : Addr) (w : World) : (method (Tryz.prog.types.size + Made.depth) 145 (.pointer (some a)) "compass/heaps.pop").run Tryz.prog w = .ok (F.heaps_binary_pop, .pointer (some a)) w := by kernel_rfl
theorem S1.form {own : Own} {h : H} {i : Nat} {v : Value} {vs : List Value} (s : S1 own h i v vs) (hn : vs ≠ []) : ∃ b c, v = .slice (some (bk b)) vs.length c ∧ vs.length ≤ c := by
  rcases s with ⟨e, _⟩ | ⟨b, hb, c, e, zs, h1, h2, h3⟩
  · exact absurd e hn
  · exact ⟨b, c, h1, by omega⟩

section
variable {own : Own} {h : H} {bq bb n k i x : Nat} {key pl : Nat → Int} {held : Nat → Bool} {hp : Nat → Nat} {A : Nat → Prop} {vk vh vp vl : Value} {ws : List Value} {cnt last : Int}
abbrev hpv (hp : Nat → Nat) : Nat → Int := fun j => (hp j : Nat)
theorem bahead_T (k1 : B1 own h 31 bq (vk :: ws)) (k3 : S1 own h 33 vk (ints n key)) {a b : Nat} (ha : a < n) (hb : b < n) :
    T Tryz.prog F.heaps_keyed_ahead [.pointer (some (bk bq)), .int .i64 a, .int .i64 b] h fun r h' => ∃ t : Bool, r = .ret (.bool t) ∧ (t = true ↔ ahd key a b) ∧ h = h' := by
  refine E_heaps_keyed_ahead ?_
  unfold B_heaps_keyed_ahead
  refine ptrP_mk (ptrP_mk (k1.rV rfl (k3.rdI ha (k1.rV rfl (k3.rdI hb (ifP_of (fun h1 => ?_) (fun h1 => ?_)))))))
  · exact ⟨true, rfl, ⟨fun _ => .inl (of_decide_eq_true h1), fun _ => rfl⟩, rfl⟩
  have h1 := of_decide_eq_false h1
  refine ptrP_mk (ptrP_mk (k1.rV rfl (k3.rdI ha (k1.rV rfl (k3.rdI hb (ifP_of (fun h2 => ?_) (fun h2 => ?_)))))))
  · have h2 := of_decide_eq_true h2
    refine ⟨_, rfl, ?_, rfl⟩
    rw [decide_eq_true_iff]
    unfold ahd; omega
  · have h2 := of_decide_eq_false h2
    refine ⟨false, rfl, ?_, rfl⟩
    unfold ahd
    constructor
    · intro h; cases h
    · intro h; omega
theorem bput_T (k2 : B1 own h 32 bb [.pointer (some (bk bq)), vp, vl]) (k5 : S1 own h 35 vp (ints k (hpv hp))) (k6 : S1 own h 36 vl (ints n pl)) (hi : i < k) (hx : x < n) :
    T Tryz.prog F.heaps_binary_put [.pointer (some (bk bb)), .int .i64 i, .int .i64 x] h fun r h' => r = .ret (.tuple ⟨[]⟩) ∧ Fm [35, 36] own h own h' ∧ S1 own h' 35 vp (ints k (hpv (updN hp i x))) ∧ S1 own h' 36 vl (ints n (upd pl x i)) := by
  refine E_heaps_binary_put ?_
  unfold B_heaps_binary_put
  refine ptrP_mk (ptrP_mk (k2.rV rfl (k2.rV rfl (k5.setI hi fun g1 F1 k5 => ?_))))
  have k6 := k6.fm F1 (by simp <;> omega)
  refine k6.setI hx fun g2 F2 k6 => ?_
  have k5 := k5.fm F2 (by simp <;> omega)
  refine ⟨rfl, (F1.mono (by simp)).trans (F2.mono (by simp)), k5.cg fun j _ => ?_, k6⟩
  by_cases e : j = i
  · subst e; rw [upd_at]; show _ = ((updN hp j x j : Nat) : Int); rw [updN_at]
  · rw [upd_ne e]; show _ = ((updN hp i x j : Nat) : Int); rw [updN_ne e]
theorem half_w {i : Nat} (h0 : 0 < i) (h1 : i ≤ 1024) : IntKind.i64.wrap ((IntKind.i64.wrap ((i : Int) - 1)).tdiv 2) = (((i - 1) / 2 : Nat) : Int) := by
  have e : IntKind.i64.wrap ((i : Int) - 1) = ((i - 1 : Nat) : Int) := by rw [show ((i : Int) - 1) = ((i - 1 : Nat) : Int) by omega]; exact w64_in (by omega) (by omega)
  rw [e, Int.tdiv_eq_ediv_of_nonneg (by omega), show (((i - 1 : Nat) : Int) / 2) = (((i - 1) / 2 : Nat) : Int) by omega]
  exact w64_in (by omega) (by omega)
/-- The engine of a queue, from a free place up. -/
theorem blower_T (k1 : B1 own h 31 bq (vk :: ws)) (k3 : S1 own h 33 vk (ints n key)) (k2 : B1 own h 32 bb [.pointer (some (bk bq)), vp, vl]) (k5 : S1 own h 35 vp (ints k (hpv hp))) (k6 : S1 own h 36 vl (ints n pl))
    (G : HoP k hp pl A key i x) (u : UpP k hp key i x) (hpl : pl x = i) (hA : ∀ v, A v → v < n) (hk : k ≤ 1024) :
    T Tryz.prog F.heaps_binary_lower [.pointer (some (bk bb)), .int .i64 x] h fun r h' => r = .ret (.tuple ⟨[]⟩) ∧ Fm [35, 36] own h own h' ∧ ∃ hp' pl', S1 own h' 35 vp (ints k (hpv hp')) ∧ S1 own h' 36 vl (ints n pl') ∧ HpP k hp' pl' A key := by
  have hx : x < n := hA x G.ax
  refine E_heaps_binary_lower ?_
  unfold B_heaps_binary_lower
  refine ptrP_mk (k2.rV rfl (k6.rdI hx ?_))
  rw [hpl]
  let I : (Int × Unit) → H → Nat → Prop := fun s g z => ∃ (i : Nat) (hp : Nat → Nat) (pl : Nat → Int), s.1 = i ∧ z = i ∧ Fm [35, 36] own h own g ∧ S1 own g 35 vp (ints k (hpv hp)) ∧ S1 own g 36 vl (ints n pl) ∧ HoP k hp pl A key i x ∧ UpP k hp key i x
  refine ⟨fun p q => ∃ k, I p q k, rk I, rk_wf I, ⟨_, i, hp, pl, rfl, rfl, Fm.refl, k5, k6, G, u⟩, ?_⟩
  clear k5 k6 G u hpl
  intro s g hI
  obtain ⟨i, hp, pl, e1, hz, Fq, k5, k6, G, u⟩ := mu_spec hI
  generalize hkk : mu I ((s, ()), g) = km at *
  change s = (i : Int) at e1
  subst e1
  have hlt : ∀ p, p < i → p < mu I (((i : Int), ()), g) := fun p h => by rw [hkk, hz]; exact h
  clear hI
  have ik := G.ik
  have k1 := k1.fm Fq (by simp <;> omega)
  have k2 := k2.fm Fq (by simp <;> omega)
  have k3 := k3.fm Fq (by simp <;> omega)
  refine ifP_of (fun h1 => ?_) (fun h1 => ?_)
  · have h0 : 0 < i := by have := of_decide_eq_true h1; omega
    have ep := half_w h0 (by omega)
    obtain ⟨a1, a2, a3⟩ := G.in_ ((i - 1) / 2) (by omega) (by omega)
    refine ptrP_mk (ptrP_mk ⟨by decide, k2.rV rfl (k2.rV rfl ?_)⟩)
    rw [ep]
    refine k5.rdI (show (i - 1) / 2 < k by omega) ((bahead_T k1 k3 hx (hA _ a1)).mono ?_)
    rintro _ _ ⟨t, rfl, ht, rfl⟩
    refine rt_ret ⟨_, rfl, ifP_of (fun h2 => ?_) (fun h2 => ?_)⟩
    · refine ptrP_mk (k2.rV rfl ⟨by decide, ?_⟩)
      refine k5.rdI (show (i - 1) / 2 < k by omega) ((bput_T k2 k5 k6 ik (hA _ a1)).mono ?_)
      rintro _ g1 ⟨rfl, F1, k5, k6⟩
      obtain ⟨G2, u2⟩ := G.up u h0 (ht.1 h2)
      refine rt_ret ⟨rfl, by decide, ?_⟩
      exact mu_next (I := I) (k := (i - 1) / 2) ⟨_, _, _, rfl, rfl, Fq.trans F1, k5, k6, G2, u2⟩ (hlt _ (by omega))
    · refine (bput_T k2 k5 k6 ik hx).mono ?_
      rintro _ g1 ⟨rfl, F1, k5, k6⟩
      exact rt_ret ⟨rfl, rfl, Fq.trans F1, _, _, k5, k6, G.fill u fun _ h3 => by rw [ht.2 h3] at h2; cases h2⟩
  · have h0 : ¬ 0 < i := by have := of_decide_eq_false h1; omega
    refine (bput_T k2 k5 k6 ik hx).mono ?_
    rintro _ g1 ⟨rfl, F1, k5, k6⟩
    exact rt_ret ⟨rfl, rfl, Fq.trans F1, _, _, k5, k6, G.fill u fun h => absurd h h0⟩
theorem bpush_T (k1 : B1 own h 31 bq (vk :: ws)) (k3 : S1 own h 33 vk (ints n key)) (k2 : B1 own h 32 bb [.pointer (some (bk bq)), vp, vl]) (k5 : S1 own h 35 vp (ints k (hpv hp))) (k6 : S1 own h 36 vl (ints n pl))
    (G : HpP k hp pl A key) (hx : x < n) (hxA : ¬ A x) (hA : ∀ v, A v → v < n) (hk : k < 1024) :
    T Tryz.prog F.heaps_binary_push [.pointer (some (bk bb)), .int .i64 x] h fun r h' => r = .ret (.tuple ⟨[]⟩) ∧ ∃ own' vp' hp' pl', Fm [32, 35, 36] own h own' h' ∧ B1 own' h' 32 bb [.pointer (some (bk bq)), vp', vl] ∧ S1 own' h' 35 vp' (ints (k + 1) (hpv hp')) ∧
      S1 own' h' 36 vl (ints n pl') ∧ HpP (k + 1) hp' pl' (fun v => A v ∨ v = x) key := by
  refine E_heaps_binary_push ?_
  unfold B_heaps_binary_push
  refine ptrP_mk (k2.rV rfl ?_)
  refine k5.push (l := 1) rfl (by simp [Value.oneCell']) (by simp) (by omega) (by rw [ints_length]; omega) ?_
  intro bx g1 vp' own' g2 hbx x1 F1 k5
  have k1 := k1.fm F1 (by simp <;> omega)
  have k2 := k2.fm F1 (by simp <;> omega)
  have k3 := k3.fm F1 (by simp <;> omega)
  have k6 := k6.fm F1 (by simp <;> omega)
  have k5 : S1 own' g2 35 vp' (ints (k + 1) (hpv (updN hp k x))) := by
    have e : ints (k + 1) (hpv (updN hp k x)) = ints k (hpv hp) ++ [.int .i64 (x : Nat)] := by
      rw [ints_push_]
      congr 1
      · refine ints_ext fun j hj => ?_
        show ((updN hp k x j : Nat) : Int) = _
        rw [updN_ne (by omega)]
      · show [Value.int .i64 ((updN hp k x k : Nat) : Int)] = _
        rw [updN_at]
    rw [e]; exact k5
  refine ptrP_mk (oneP_slc k5.isS (k2.st (j := 1) (by simp) fun g3 F2 k2 => ?_))
  simp only [List.set] at k2
  have k1 := k1.fm F2 (by simp <;> omega)
  have k3 := k3.fm F2 (by simp <;> omega)
  have k5 := k5.fm F2 (by simp <;> omega)
  have k6 := k6.fm F2 (by simp <;> omega)
  refine ptrP_mk (ptrP_mk (k2.rV rfl (k2.rV rfl (k5.len (ints_length _ _) fun _ _ => ?_))))
  have ew : IntKind.i64.wrap (((k + 1 : Nat) : Int) - 1) = (k : Int) := by rw [show ((k + 1 : Nat) : Int) - 1 = k by omega]; exact w64_in (by omega) (by omega)
  rw [ew]
  refine k6.setI hx fun g4 F3 k6 => ?_
  have k1 := k1.fm F3 (by simp <;> omega)
  have k2 := k2.fm F3 (by simp <;> omega)
  have k3 := k3.fm F3 (by simp <;> omega)
  have k5 := k5.fm F3 (by simp <;> omega)
  obtain ⟨G2, u2⟩ := G.more hxA
  -- the hole's own content does not matter
  have G3 : HoP (k + 1) (updN hp k x) (upd pl x k) (fun v => A v ∨ v = x) key k x := by
    have nk : ∀ j, j < k + 1 → j ≠ k → updN hp k x j = hp j := fun j _ h => updN_ne h
    refine ⟨G2.ik, G2.ax, fun j hj hne => ?_, fun v hv => ?_, fun j h0 hj n1 n2 => ?_, fun j h0 hj e1 h2 => by omega⟩
    · obtain ⟨b1, b2, b3⟩ := G2.in_ j hj hne
      rw [nk j hj hne, upd_ne b2]; exact ⟨b1, b2, b3⟩
    · rcases G2.on v hv with h | ⟨j, hj, hne, e⟩
      · exact .inl h
      · exact .inr ⟨j, hj, hne, by rw [nk j hj hne]; exact e⟩
    · rw [nk j hj n1, nk _ (by omega) n2]; exact G2.od j h0 hj n1 n2
  have u3 : UpP (k + 1) (updN hp k x) key k x := fun j h0 hj e1 => by omega
  refine (blower_T k1 k3 k2 k5 k6 G3 u3 upd_at (fun v hv => by
    rcases hv with hv | rfl
    · exact hA v hv
    · exact hx) (by omega)).mono ?_
  rintro _ g5 ⟨rfl, F4, hp', pl', k5, k6, G4⟩
  have k2 := k2.fm F4 (by simp <;> omega)
  exact rt_ret ⟨rfl, rfl, own', vp', hp', pl', (((F1.mono (by simp)).trans (F2.mono (by simp))).trans (F3.mono (by simp))).trans (F4.mono (by simp)), k2, k5, k6, G4⟩
theorem bpop_T (k1 : B1 own h 31 bq (vk :: ws)) (k3 : S1 own h 33 vk (ints n key)) (k2 : B1 own h 32 bb [.pointer (some (bk bq)), vp, vl]) (k5 : S1 own h 35 vp (ints (k + 1) (hpv hp))) (k6 : S1 own h 36 vl (ints n pl))
    (G : HpP (k + 1) hp pl A key) (hA : ∀ v, A v → v < n) (hk : k < 1024) :
    T Tryz.prog F.heaps_binary_pop [.pointer (some (bk bb))] h fun r h' => r = .ret (.tuple ⟨[]⟩) ∧ ∃ vp' hp' pl', Fm [32, 35, 36] own h own h' ∧ B1 own h' 32 bb [.pointer (some (bk bq)), vp', vl] ∧ S1 own h' 35 vp' (ints k (hpv hp')) ∧
      S1 own h' 36 vl (ints n pl') ∧ HpP k hp' pl' (fun v => A v ∧ v ≠ hp 0) key := by
  refine E_heaps_binary_pop ?_
  unfold B_heaps_binary_pop
  obtain ⟨b, c, rfl, hc⟩ := k5.form (by rw [ints_push_]; simp)
  rw [ints_length] at hc k5 k2
  have ew : IntKind.i64.wrap (((k + 1 : Nat) : Int) - 1) = (k : Int) := by rw [show ((k + 1 : Nat) : Int) - 1 = k by omega]; exact w64_in (by omega) (by omega)
  refine ptrP_mk (ptrP_mk (k2.rV rfl (k2.rV rfl (slcP_mk ?_))))
  rw [ew]
  refine k5.rdI (Nat.lt_succ_self k) (ptrP_mk (ptrP_mk (k2.rV rfl (k2.rV rfl (slcP_mk (slcP_mk ?_))))))
  rw [ew]
  refine ⟨by omega, by omega, by omega, by omega, ptrP_mk ?_⟩
  rw [sliceV1_n]
  refine oneP_mk (k2.st (j := 1) (by simp) fun g1 F1 k2 => ?_)
  simp only [List.set] at k2
  have k1 := k1.fm F1 (by simp <;> omega)
  have k3 := k3.fm F1 (by simp <;> omega)
  have k5 := k5.fm F1 (by simp <;> omega)
  have k6 := k6.fm F1 (by simp <;> omega)
  have hxk : hp k < n := hA _ (G.in_ k (by omega)).1
  have k5 := k5.takeN (show k ≤ k + 1 by omega)
  refine ptrP_mk (k2.rV rfl (slcP_mk (ifP_of (fun h1 => ?_) (fun h1 => ?_))))
  · have h1 : k = 0 := by have := of_decide_eq_true h1; omega
    subst h1
    exact ⟨rfl, _, hp, pl, F1.mono (by simp), k2, k5, k6, G.last⟩
  have h0 : 0 < k := by have := of_decide_eq_false h1; omega
  obtain ⟨G1, d1⟩ := G.take h0
  have hA' : ∀ v, (fun v => A v ∧ v ≠ hp 0) v → v < n := fun v hv => hA v hv.1
  rw [show hpv hp k = ((hp k : Nat) : Int) from rfl]
  generalize (fun v => A v ∧ v ≠ hp 0) = A' at *
  generalize hp k = x at *
  let I : (Int × Unit) → H → Nat → Prop := fun s g z => ∃ (i : Nat) (hp : Nat → Nat) (pl : Nat → Int), s.1 = i ∧ z = k - i ∧ Fm [35, 36] own g1 own g ∧ S1 own g 35 (.slice (some (bk b)) k c) (ints k (hpv hp)) ∧ S1 own g 36 vl (ints n pl) ∧ HoP k hp pl A' key i x ∧ DnP hp key i x
  refine ⟨fun p q => ∃ k, I p q k, rk I, rk_wf I, ⟨_, 0, hp, pl, rfl, rfl, Fm.refl, k5, k6, G1, d1⟩, ?_⟩
  clear k5 k6 G1 d1 G
  intro s g hI
  obtain ⟨i, hp, pl, e1, hz, Fq, k5, k6, G, d⟩ := mu_spec hI
  generalize hkk : mu I ((s, ()), g) = km at *
  change s = (i : Int) at e1
  subst e1
  have hlt : ∀ p, i < p → p < k → k - p < mu I (((i : Int), ()), g) := fun p h h2 => by rw [hkk, hz]; omega
  clear hI
  have ik := G.ik
  have k1 := k1.fm Fq (by simp <;> omega)
  have k2 := k2.fm Fq (by simp <;> omega)
  have k3 := k3.fm Fq (by simp <;> omega)
  have w1 : IntKind.i64.wrap ((IntKind.i64.wrap (2 * (i : Int))) + 1) = ((2 * i + 1 : Nat) : Int) := by
    rw [show IntKind.i64.wrap (2 * (i : Int)) = 2 * (i : Int) from w64_in (by omega) (by omega)]; exact w64_in (by omega) (by omega)
  have w2 : IntKind.i64.wrap (((2 * i + 1 : Nat) : Int) + 1) = ((2 * i + 2 : Nat) : Int) := w64_in (by omega) (by omega)
  rw [w1, w2]
  refine ⟨fun s g' => g' = g ∧ ∃ c : Nat, s.1 = c ∧ ((k ≤ c ∧ k ≤ 2 * i + 1) ∨ (c < k ∧ 0 < c ∧ (c - 1) / 2 = i ∧ ∀ j, 0 < j → j < k → (j - 1) / 2 = i → ¬ ahd key (hp j) (hp c))), ?_, ?_⟩
  · refine ifP_of (fun h2 => ?_) (fun h2 => ?_)
    · have h2 : 2 * i + 2 < k := by have := of_decide_eq_true h2; omega
      have a1 := (G.in_ (2 * i + 2) h2 (by omega)).1
      have a2 := (G.in_ (2 * i + 1) (by omega) (by omega)).1
      refine ptrP_mk (ptrP_mk (ptrP_mk (k2.rV rfl (k2.rV rfl (k5.rdI h2 (k2.rV rfl (k5.rdI (show 2 * i + 1 < k by omega) ((bahead_T k1 k3 (hA' _ a1) (hA' _ a2)).mono ?_))))))))
      rintro _ _ ⟨t, rfl, ht, rfl⟩
      refine rt_ret ⟨_, rfl, ifP_of (fun h3 => ?_) (fun h3 => ?_)⟩
      · refine ⟨rfl, 2 * i + 2, rfl, .inr ⟨h2, by omega, by omega, fun j j0 hj e => ?_⟩⟩
        have := ht.1 h3
        have : j = 2 * i + 1 ∨ j = 2 * i + 2 := by omega
        rcases this with rfl | rfl
        · exact ahd_as (ht.1 h3)
        · exact ahd_irr
      · have hn : ¬ ahd key (hp (2 * i + 2)) (hp (2 * i + 1)) := fun h => by rw [ht.2 h] at h3; cases h3
        refine ⟨rfl, 2 * i + 1, rfl, .inr ⟨by omega, by omega, by omega, fun j j0 hj e => ?_⟩⟩
        have : j = 2 * i + 1 ∨ j = 2 * i + 2 := by omega
        rcases this with rfl | rfl
        · exact ahd_irr
        · exact hn
    · have h2 : ¬ 2 * i + 2 < k := by have := of_decide_eq_false h2; omega
      refine ⟨rfl, 2 * i + 1, rfl, ?_⟩
      by_cases h3 : k ≤ 2 * i + 1
      · exact .inl ⟨h3, h3⟩
      · refine .inr ⟨by omega, by omega, by omega, fun j j0 hj e => ?_⟩
        have : j = 2 * i + 1 := by omega
        subst this; exact ahd_irr
  rintro c' g' ⟨hg, c', e1, hc'⟩
  change _ = (c' : Int) at e1
  subst hg e1
  refine ifP_of (fun h2 => ?_) (fun h2 => ?_)
  · have h2 : k ≤ c' := by have := of_decide_eq_true h2; omega
    refine (bput_T k2 k5 k6 ik (hA' _ G.ax)).mono ?_
    rintro _ g2 ⟨rfl, F2, k5, k6⟩
    have k2 := k2.fm F2 (by simp <;> omega)
    refine rt_ret ⟨rfl, rfl, _, _, _, (F1.mono (by simp)).trans ((Fq.trans F2).mono (by simp)), k2, k5, k6, G.fill (fun j j0 hj e => ?_) d⟩
    rcases hc' with h3 | h3 <;> omega
  · have h2 : c' < k := by have := of_decide_eq_false h2; omega
    rcases hc' with h3 | ⟨_, c0, ci, cm⟩
    · omega
    have a1 := (G.in_ c' h2 (by omega)).1
    refine ptrP_mk (ptrP_mk (k2.rV rfl (k2.rV rfl (k5.rdI h2 ((bahead_T k1 k3 (hA' _ a1) (hA' _ G.ax)).mono ?_)))))
    rintro _ _ ⟨t, rfl, ht, rfl⟩
    refine rt_ret ⟨_, rfl, ifP_of (fun h3 => ?_) (fun h3 => ?_)⟩
    · have hn : ¬ ahd key (hp c') x := fun h => by rw [ht.2 h] at h3; cases h3
      refine (bput_T k2 k5 k6 ik (hA' _ G.ax)).mono ?_
      rintro _ g2 ⟨rfl, F2, k5, k6⟩
      have k2 := k2.fm F2 (by simp <;> omega)
      exact rt_ret ⟨rfl, rfl, _, _, _, (F1.mono (by simp)).trans ((Fq.trans F2).mono (by simp)), k2, k5, k6, G.fill (fun j j0 hj e => ahd_nt (cm j j0 hj e) hn) d⟩
    · have ha : ahd key (hp c') x := ht.1 (by simpa using h3)
      refine ptrP_mk (k2.rV rfl (k5.rdI h2 ((bput_T k2 k5 k6 ik (hA' _ a1)).mono ?_)))
      rintro _ g2 ⟨rfl, F2, k5, k6⟩
      obtain ⟨G2, d2⟩ := G.down c' h2 ci c0 ha cm
      exact rt_ret ⟨rfl, mu_next (I := I) (k := k - c') ⟨c', _, _, rfl, rfl, Fq.trans F2, k5, k6, G2, d2⟩ (hlt c' (by omega) h2)⟩
end

end Go.Proofs.YtdcamadeblojdaaGreat

namespace Go.Proofs.YtdcamadeblojdaaGreat
open Go
open Classical
set_option linter.unusedVariables false
set_option linter.unusedSimpArgs false
set_option maxHeartbeats 1000000

theorem HpP.len {k n : Nat} {hp : Nat → Nat} {pl : Nat → Int} {A : Nat → Prop} {key : Nat → Int} (G : HpP k hp pl A key) (hA : ∀ v, A v → v < n) : k ≤ n := by
  have nd : ((List.range k).map hp).Nodup := List.pairwise_map.2 (List.Pairwise.imp_of_mem (fun {a b} ha hb hab e => by
    rw [List.mem_range] at ha hb
    have := G.inj ha hb e
    omega) List.pairwise_lt_range)
  have := short (n := n) nd fun x hx => by
    obtain ⟨j, hj, rfl⟩ := List.mem_map.1 hx
    exact hA _ (G.in_ j (List.mem_range.1 hj)).1
  simpa using this
theorem HpP.len1 {k n x : Nat} {hp : Nat → Nat} {pl : Nat → Int} {A : Nat → Prop} {key : Nat → Int} (G : HpP k hp pl A key) (hA : ∀ v, A v → v < n) (hx : x < n) (hxA : ¬ A x) : k < n := by
  have nd : (x :: (List.range k).map hp).Nodup := by
    rw [List.nodup_cons]
    refine ⟨fun h => ?_, List.pairwise_map.2 (List.Pairwise.imp_of_mem (fun {a b} ha hb hab e => by
      rw [List.mem_range] at ha hb
      have := G.inj ha hb e
      omega) List.pairwise_lt_range)⟩
    obtain ⟨j, hj, e⟩ := List.mem_map.1 h
    exact hxA (e ▸ (G.in_ j (List.mem_range.1 hj)).1)
  have := short (n := n) nd fun y hy => by
    rcases List.mem_cons.1 hy with rfl | hy
    · exact hx
    · obtain ⟨j, hj, rfl⟩ := List.mem_map.1 hy
      exact hA _ (G.in_ j (List.mem_range.1 hj)).1
  have h2 : k + 1 ≤ n := by simpa using this
  omega

/-- A queue of kind Binary. -/
structure BQ (own : Own) (h : H) (bq n : Nat) (key : Nat → Int) (held : Nat → Bool) : Prop where
  q : ∃ (bb k : Nat) (last : Int) (hp : Nat → Nat) (pl : Nat → Int) (vk vh vp vl : Value), B1 own h 31 bq [vk, vh, .iface 145 (.pointer (some (bk bb))), .int .i64 k, .int .i64 1, .int .i64 last] ∧ S1 own h 33 vk (ints n key) ∧ S1 own h 34 vh (bools n held) ∧
    B1 own h 32 bb [.pointer (some (bk bq)), vp, vl] ∧ S1 own h 35 vp (ints k (hpv hp)) ∧ S1 own h 36 vl (ints n pl) ∧ HpP k hp pl (heldP n held) key
section
variable {own own' : Own} {h h' : H} {n bq : Nat} {key : Nat → Int} {held : Nat → Bool}
theorem BQ.fm {M : List Nat} (Q : BQ own h bq n key held) (Fr : Fm M own h own' h') (hM : ∀ j, j ∈ M → j < 31 ∨ 36 < j) : BQ own' h' bq n key held := by
  obtain ⟨bb, k, last, hp, pl, vk, vh, vp, vl, k1, k3, k4, k2, k5, k6, G⟩ := Q.q
  have no : ∀ j, 31 ≤ j → j ≤ 36 → j ∉ M := fun j h1 h2 k => by have := hM j k; omega
  exact ⟨bb, k, last, hp, pl, vk, vh, vp, vl, k1.fm Fr (no _ (by omega) (by omega)), k3.fm Fr (no _ (by omega) (by omega)), k4.fm Fr (no _ (by omega) (by omega)), k2.fm Fr (no _ (by omega) (by omega)), k5.fm Fr (no _ (by omega) (by omega)), k6.fm Fr (no _ (by omega) (by omega)), G⟩
theorem lowB_T {vk vh ve : Value} {cnt last : Int} (k1 : B1 own h 31 bq [vk, vh, ve, .int .i64 cnt, .int .i64 1, .int .i64 last]) (k : Int) : T Tryz.prog F.heaps_Queue_low [.pointer (some (bk bq)), .int .i64 k] h fun r h' => r = .ret (.bool false) ∧ h = h' := by
  refine E_heaps_Queue_low ?_
  unfold B_heaps_Queue_low
  exact ptrP_mk (k1.rI rfl (ifP_of (fun h => by simp at h) (fun _ => ⟨rfl, rfl⟩)))
theorem qpushB_T (Q : BQ own h bq n key held) {v : Nat} {k : Int} (hv : v < n) (hh : held v = false) (hn : n ≤ 1024) :
    T Tryz.prog F.heaps_Queue_Push [.pointer (some (bk bq)), .int .i64 v, .int .i64 k] h fun r h' => ∃ own', r = .ret (.int .i64 0) ∧ Fm [31, 32, 33, 34, 35, 36] own h own' h' ∧ BQ own' h' bq n (upd key v k) (updB held v true) := by
  obtain ⟨bb, c, last, hp, pl, vk, vh, vp, vl, k1, k3, k4, k2, k5, k6, G⟩ := Q.q
  have nh : ¬ heldP n held v := fun e => by have := e.2; rw [hh] at this; cases this
  have cn := G.len1 (n := n) (fun v h => h.1) hv nh
  refine E_heaps_Queue_Push ?_
  unfold B_heaps_Queue_Push
  refine ifP_of (fun e => by have := of_decide_eq_true e; omega) (fun _ => ptrP_mk ⟨_, k1.ld0 rfl, k4.len (bools_length _ _) fun _ _ => ifP_of (fun e => by have := of_decide_eq_true e; omega) (fun _ => ptrP_mk ⟨_, k1.ld0 rfl, k4.rdB hv ?_⟩)⟩)
  rw [hh]
  refine ifP_of (fun e => by cases e) (fun _ => ?_)
  refine (lowB_T k1 k).mono ?_
  rintro _ _ ⟨rfl, rfl⟩
  refine rt_ret ⟨_, rfl, ifP_of (fun e => by cases e) (fun _ => ptrP_mk (ptrP_mk ⟨_, k1.ld0 rfl, _, k1.ld0 rfl, k3.setI hv fun g1 F1 k3 => ?_⟩))⟩
  have k1 := k1.fm F1 (by simp <;> omega)
  have k4 := k4.fm F1 (by simp <;> omega)
  have k2 := k2.fm F1 (by simp <;> omega)
  have k5 := k5.fm F1 (by simp <;> omega)
  have k6 := k6.fm F1 (by simp <;> omega)
  refine k4.setB hv fun g2 F2 k4 => ?_
  have k1 := k1.fm F2 (by simp <;> omega)
  have k3 := k3.fm F2 (by simp <;> omega)
  have k2 := k2.fm F2 (by simp <;> omega)
  have k5 := k5.fm F2 (by simp <;> omega)
  have k6 := k6.fm F2 (by simp <;> omega)
  have ew : IntKind.i64.wrap ((c : Int) + 1) = ((c + 1 : Nat) : Int) := w64_in (by omega) (by omega)
  refine ptrP_mk (k1.rI rfl (ptrP_mk (k1.st (j := 3) (by simp) fun g3 F3 k1 => ?_)))
  rw [ew] at k1
  simp only [List.set] at k1
  have k3 := k3.fm F3 (by simp <;> omega)
  have k4 := k4.fm F3 (by simp <;> omega)
  have k2 := k2.fm F3 (by simp <;> omega)
  have k5 := k5.fm F3 (by simp <;> omega)
  have k6 := k6.fm F3 (by simp <;> omega)
  have G := G.rekey (key' := upd key v k) fun x hx => upd_ne (by rintro rfl; exact nh hx)
  refine ptrP_mk ⟨_, k1.ld rfl, _, _, fun w _ => methPushB _ w, ?_⟩
  refine (bpush_T k1 k3 k2 k5 k6 G hv nh (fun v h => h.1) (by omega)).mono ?_
  rintro _ g4 ⟨rfl, own4, vp', hp', pl', F4, k2, k5, k6, G⟩
  have k1 := k1.fm F4 (by simp <;> omega)
  have k3 := k3.fm F4 (by simp <;> omega)
  have k4 := k4.fm F4 (by simp <;> omega)
  refine rt_ret ⟨rfl, own4, rfl, (((F1.mono (by simp)).trans (F2.mono (by simp))).trans (F3.mono (by simp))).trans (F4.mono (by simp)), ⟨bb, c + 1, last, hp', pl', vk, vh, vp', vl, k1, k3, k4, k2, k5, k6, G.uset fun x => ?_⟩⟩
  unfold updB heldP
  by_cases e : x = v
  · subst e; simp [hv]
  · simp [e]
theorem qlowerB_T (Q : BQ own h bq n key held) {v : Nat} {k : Int} (hv : v < n) (hh : held v = true) (hk : k < key v) (hn : n ≤ 1024) :
    T Tryz.prog F.heaps_Queue_Lower [.pointer (some (bk bq)), .int .i64 v, .int .i64 k] h fun r h' => r = .ret (.int .i64 0) ∧ Fm [31, 32, 33, 34, 35, 36] own h own h' ∧ BQ own h' bq n (upd key v k) held := by
  obtain ⟨bb, c, last, hp, pl, vk, vh, vp, vl, k1, k3, k4, k2, k5, k6, G⟩ := Q.q
  have cn := G.len (n := n) (fun v h => h.1)
  refine E_heaps_Queue_Lower ?_
  unfold B_heaps_Queue_Lower
  refine ifP_of (fun e => by have := of_decide_eq_true e; omega) (fun _ => ptrP_mk ⟨_, k1.ld0 rfl, k4.len (bools_length _ _) fun _ _ => ifP_of (fun e => by have := of_decide_eq_true e; omega) (fun _ => ptrP_mk ⟨_, k1.ld0 rfl, k4.rdB hv ?_⟩)⟩)
  rw [hh]
  refine ifP_of (fun e => by cases e) (fun _ => ptrP_mk ⟨_, k1.ld0 rfl, k3.rdI hv (ifP_of (fun e => by have := of_decide_eq_true e; omega) (fun _ => ?_))⟩)
  refine (lowB_T k1 k).mono ?_
  rintro _ _ ⟨rfl, rfl⟩
  refine rt_ret ⟨_, rfl, ifP_of (fun e => by cases e) (fun _ => ptrP_mk ⟨_, k1.ld0 rfl, k3.rdI hv (ifP_of (fun _ => ?_) (fun e => by have := of_decide_eq_false e; omega))⟩)⟩
  refine ptrP_mk ⟨_, k1.ld0 rfl, k3.setI hv fun g1 F1 k3 => ?_⟩
  have k1 := k1.fm F1 (by simp <;> omega)
  have k4 := k4.fm F1 (by simp <;> omega)
  have k2 := k2.fm F1 (by simp <;> omega)
  have k5 := k5.fm F1 (by simp <;> omega)
  have k6 := k6.fm F1 (by simp <;> omega)
  obtain ⟨i, hi, hiv⟩ := G.on v ⟨hv, hh⟩
  obtain ⟨G2, u2⟩ := G.low (key' := upd key v k) hi (by rw [hiv, upd_at]; omega) (fun w hw => upd_ne (by rw [hiv] at hw; exact hw))
  rw [hiv] at G2 u2
  have hpi : pl v = i := by have := (G.in_ i hi).2; rwa [hiv] at this
  refine ptrP_mk ⟨_, k1.ld rfl, _, _, fun w _ => methLowerB _ w, ?_⟩
  refine (blower_T k1 k3 k2 k5 k6 G2 u2 hpi (fun v h => h.1) (by omega)).mono ?_
  rintro _ g2 ⟨rfl, F2, hp', pl', k5, k6, G⟩
  have k1 := k1.fm F2 (by simp <;> omega)
  have k3 := k3.fm F2 (by simp <;> omega)
  have k4 := k4.fm F2 (by simp <;> omega)
  have k2 := k2.fm F2 (by simp <;> omega)
  exact rt_ret ⟨rfl, rfl, (F1.mono (by simp)).trans (F2.mono (by simp)), ⟨bb, c, last, hp', pl', vk, vh, vp, vl, k1, k3, k4, k2, k5, k6, G⟩⟩
theorem qpopB_T (Q : BQ own h bq n key held) (hn : n ≤ 1024) :
    T Tryz.prog F.heaps_Queue_Pop [.pointer (some (bk bq))] h fun r h' => (r = .ret (.tuple ⟨[.int .i64 0, .int .i64 0, .int .i64 4]⟩) ∧ (∀ x, x < n → held x = false) ∧ h = h') ∨
      ∃ v : Nat, r = .ret (.tuple ⟨[.int .i64 v, .int .i64 (key v), .int .i64 0]⟩) ∧ v < n ∧ held v = true ∧ (∀ x, x < n → held x = true → key v ≤ key x) ∧ Fm [31, 32, 33, 34, 35, 36] own h own h' ∧ BQ own h' bq n key (updB held v false) := by
  obtain ⟨bb, c, last, hp, pl, vk, vh, vp, vl, k1, k3, k4, k2, k5, k6, G⟩ := Q.q
  have cn := G.len (n := n) (fun v h => h.1)
  refine E_heaps_Queue_Pop ?_
  unfold B_heaps_Queue_Pop
  have top : T Tryz.prog F.heaps_Queue_Top [.pointer (some (bk bq))] h fun r h' => h = h' ∧ ((c = 0 ∧ r = .ret (.tuple ⟨[.int .i64 0, .int .i64 0, .int .i64 4]⟩)) ∨ (0 < c ∧ r = .ret (.tuple ⟨[.int .i64 (hp 0 : Nat), .int .i64 (key (hp 0)), .int .i64 0]⟩))) := by
    refine E_heaps_Queue_Top ?_
    unfold B_heaps_Queue_Top
    refine ptrP_mk (k1.rI rfl (ifP_of (fun h1 => ⟨rfl, .inl ⟨by have := of_decide_eq_true h1; omega, rfl⟩⟩) (fun h1 => ?_)))
    have c0 : 0 < c := by have := of_decide_eq_false h1; omega
    refine ptrP_mk ⟨_, k1.ld rfl, _, _, fun w _ => methTopB _ w, ?_⟩
    refine E_heaps_binary_top ?_
    unfold B_heaps_binary_top
    refine ptrP_mk (k2.rV rfl (k5.rdI c0 (rt_ret ⟨_, rfl, ptrP_mk ⟨_, k1.ld0 rfl, ?_⟩⟩)))
    exact k3.rdI (G.in_ 0 c0).1.1 ⟨rfl, .inr ⟨c0, rfl⟩⟩
  refine top.mono ?_
  rintro _ _ ⟨rfl, ⟨c0, rfl⟩ | ⟨c0, rfl⟩⟩
  · refine rt_ret ⟨_, _, _, rfl, ifP_of (fun h1 => by simp at h1) (fun _ => .inl ⟨rfl, fun x hx => ?_, rfl⟩)⟩
    cases e : held x with
    | false => rfl
    | true =>
      obtain ⟨j, hj, _⟩ := G.on x ⟨hx, e⟩
      omega
  have hv := (G.in_ 0 c0).1
  have hmin : ∀ x, x < n → held x = true → key (hp 0) ≤ key x := fun x hx hh => by
    obtain ⟨j, hj, e⟩ := G.on x ⟨hx, hh⟩
    rcases G.top j hj with h1 | h1
    · rw [h1, e]; omega
    · rw [e] at h1; unfold ahd at h1; omega
  obtain ⟨c', rfl⟩ : ∃ c', c = c' + 1 := ⟨c - 1, by omega⟩
  refine rt_ret ⟨_, _, _, rfl, ifP_of (fun _ => ?_) (fun h1 => by simp at h1)⟩
  refine ptrP_mk ⟨_, k1.ld rfl, _, _, fun w _ => methPopB _ w, ?_⟩
  refine (bpop_T k1 k3 k2 k5 k6 G (fun v h => h.1) (by omega)).mono ?_
  rintro _ g1 ⟨rfl, vp', hp', pl', F1, k2, k5, k6, G2⟩
  have k1 := k1.fm F1 (by simp <;> omega)
  have k3 := k3.fm F1 (by simp <;> omega)
  have k4 := k4.fm F1 (by simp <;> omega)
  refine rt_ret ⟨rfl, ptrP_mk ⟨_, k1.ld0 rfl, k4.setB hv.1 fun g2 F2 k4 => ?_⟩⟩
  have k1 := k1.fm F2 (by simp <;> omega)
  have k3 := k3.fm F2 (by simp <;> omega)
  have k2 := k2.fm F2 (by simp <;> omega)
  have k5 := k5.fm F2 (by simp <;> omega)
  have k6 := k6.fm F2 (by simp <;> omega)
  have ew : IntKind.i64.wrap (((c' + 1 : Nat) : Int) - 1) = (c' : Int) := by rw [show ((c' + 1 : Nat) : Int) - 1 = c' by omega]; exact w64_in (by omega) (by omega)
  refine ptrP_mk (k1.rI rfl (ptrP_mk (k1.st (j := 3) (by simp) fun g3 F3 k1 => ?_)))
  rw [ew] at k1
  simp only [List.set] at k1
  have k3 := k3.fm F3 (by simp <;> omega)
  have k4 := k4.fm F3 (by simp <;> omega)
  have k2 := k2.fm F3 (by simp <;> omega)
  have k5 := k5.fm F3 (by simp <;> omega)
  have k6 := k6.fm F3 (by simp <;> omega)
  refine ptrP_mk (k1.st (j := 5) (by simp) fun g4 F4 k1 => ?_)
  simp only [List.set] at k1
  have k3 := k3.fm F4 (by simp <;> omega)
  have k4 := k4.fm F4 (by simp <;> omega)
  have k2 := k2.fm F4 (by simp <;> omega)
  have k5 := k5.fm F4 (by simp <;> omega)
  have k6 := k6.fm F4 (by simp <;> omega)
  refine .inr ⟨hp 0, rfl, hv.1, hv.2, hmin, (((F1.mono (by simp)).trans (F2.mono (by simp))).trans (F3.mono (by simp))).trans (F4.mono (by simp)), ⟨bb, c', _, hp', pl', vk, vh, vp', vl, k1, k3, k4, k2, k5, k6, G2.uset fun x => ?_⟩⟩
  unfold updB heldP
  by_cases e : x = hp 0
  · subst e; simp
  · simp [e]
theorem qnewB_T (own : Own) (hn : n ≤ 1024) : T Tryz.prog F.heaps_New [.int .i64 1, .int .i64 n] h fun r h' => ∃ (bq : Nat) (own' : Own), r = .ret (.tuple ⟨[.pointer (some (bk bq)), .int .i64 0]⟩) ∧
    Fm [31] own h own' h' ∧ BQ own' h' bq n (fun _ => 0) (fun _ => false) := by
  refine E_heaps_New ?_
  unfold B_heaps_New
  refine ifP_of (fun e => by simp at e) (fun _ => ifP_of (fun e => by simp at e) (fun _ => ifP_of (fun e => by have := of_decide_eq_true e; omega) (fun _ => ifP_of (fun e => by have := of_decide_eq_true e; omega) (fun _ => ?_))))
  refine mk_ints 33 (by omega) (by omega) ?_
  intro b1 q1 hb1 x1 S1_
  have F1 : Fm [] own h (own1 own b1 33) q1 := Fm.new x1 hb1
  have k2 := S1_ own
  rw [Int.toNat_natCast]
  generalize own1 own b1 33 = own1_ at *
  refine mk_bools 34 (by omega) (by omega) ?_
  intro b3 q3 hb3 x3 S3_
  have F3 : Fm [] own1_ q1 (own1 own1_ b3 34) q3 := Fm.new x3 hb3
  have k3 := S3_ own1_
  have k2 := k2.fm F3 (by simp <;> omega)
  have F1 := F1.trans F3
  generalize own1 own1_ b3 34 = own3 at *
  refine ⟨rfl, new_bl ?_⟩
  intro b5 q5 hb5 x5 B5
  have F5 : Fm [] own3 q3 (own1 own3 b5 31) q5 := Fm.new x5 hb5
  have k1 : B1 (own1 own3 b5 31) q5 31 b5 _ := B1.new B5
  have k2 := k2.fm F5 (by simp <;> omega)
  have k3 := k3.fm F5 (by simp <;> omega)
  have F1 := F1.trans F5
  generalize own1 own3 b5 31 = own5 at *
  refine ifP_of (fun _ => ?_) (fun e => by simp at e)
  refine mk_ints 36 (by omega) (by omega) ?_
  intro b7 q7 hb7 x7 S7_
  have F7 : Fm [] own5 q5 (own1 own5 b7 36) q7 := Fm.new x7 hb7
  have k6 := S7_ own5
  have k1 := k1.fm F7 (by simp <;> omega)
  have k2 := k2.fm F7 (by simp <;> omega)
  have k3 := k3.fm F7 (by simp <;> omega)
  have F1 := F1.trans F7
  generalize own1 own5 b7 36 = own7 at *
  refine new_bl ?_
  intro b9 q9 hb9 x9 B9
  have F9 : Fm [] own7 q7 (own1 own7 b9 32) q9 := Fm.new x9 hb9
  have kf : B1 (own1 own7 b9 32) q9 32 b9 _ := B1.new B9
  have k1 := k1.fm F9 (by simp <;> omega)
  have k2 := k2.fm F9 (by simp <;> omega)
  have k3 := k3.fm F9 (by simp <;> omega)
  have k6 := k6.fm F9 (by simp <;> omega)
  have F1 := F1.trans F9
  generalize own1 own7 b9 32 = own9 at *
  rw [add_zero'] at kf
  refine k1.st (j := 2) (by simp) fun g F20 k1 => ?_
  have k2 := k2.fm F20 (by simp <;> omega)
  have k3 := k3.fm F20 (by simp <;> omega)
  have k6 := k6.fm F20 (by simp <;> omega)
  have kf := kf.fm F20 (by simp <;> omega)
  simp only [List.set] at k1
  exact ⟨b5, own9, rfl, (F1.mono (by simp)).trans F20, ⟨b9, 0, 0, fun _ => 0, fun _ => 0, _, _, _, _, k1, k2, k3, kf, S1.nil, k6, ⟨fun j hj => by omega, fun v hv => (by cases hv.2), fun j h0 hj => by omega⟩⟩⟩
end

end Go.Proofs.YtdcamadeblojdaaGreat

namespace Go.Proofs.YtdcamadeblojdaaGreat
open Go
open Classical
set_option linter.unusedVariables false
set_option linter.unusedSimpArgs false
set_option maxHeartbeats 1000000

/-- Nodes below k of the left side have been taken in; x: a node of the right side that is being given away (left + wd: none). -/
structure TrP (left wd k j x : Nat) (W : Nat → Nat → Int) (E : Nat → Nat → Prop) (pot by_ : Nat → Int) : Prop where
  po : ∀ v, v < left + wd → 0 ≤ pot v ∧ pot v ≤ ((j + 1 : Nat) : Int) * 1048576
  pl : ∀ v, v < left → pot v ≤ 1048576
  fe : ∀ v c, v < left → c < wd → W v c ≤ pot v + pot (left + c)
  lm : ∀ v, v < left → by_ v = -1 ∨ ∃ c, c < wd ∧ left + c ≠ x ∧ by_ v = ((left + c : Nat) : Int) ∧ by_ (left + c) = (v : Int) ∧ E v c ∧ pot v + pot (left + c) = W v c
  rm : ∀ c, c < wd → left + c ≠ x → by_ (left + c) = -1 ∨ ∃ v, v < left ∧ by_ (left + c) = (v : Int) ∧ by_ v = ((left + c : Nat) : Int)
  l0 : ∀ v, v < left → v < k → by_ v = -1 → pot v = 0
  un : ∀ v, v < left → j ≤ v → by_ v = -1
  r0 : ∀ c, c < wd → left + c ≠ x → by_ (left + c) = -1 → pot (left + c) = 0
section
variable {left wd k j x : Nat} {W : Nat → Nat → Int} {E : Nat → Nat → Prop} {pot by_ : Nat → Int}
theorem TrP.step (G : TrP left wd k j x W E pot by_) {u c x' : Nat} (hu : u < left) (huj : u < j) (hc : c < wd) (hx : x = left + c) (e : E u c) (t : pot u + pot (left + c) = W u c)
    (hx' : by_ u = -1 ∧ x' = left + wd ∨ by_ u = (x' : Int)) : TrP left wd k j x' W E pot (upd (upd by_ u x) x u) := by
  have bx : upd (upd by_ u x) x u x = u := upd_at
  have bu : upd (upd by_ u x) x u u = x := by rw [upd_ne (by omega), upd_at]
  have bo : ∀ y, y ≠ x → y ≠ u → upd (upd by_ u x) x u y = by_ y := fun y h1 h2 => by rw [upd_ne h1, upd_ne h2]
  generalize upd (upd by_ u x) x u = by' at *
  have xx : x ≠ x' ∧ ∀ v c', v < left → v ≠ u → by_ (left + c') = (v : Int) → c' < wd → left + c' ≠ x' := by
    rcases hx' with ⟨h1, h2⟩ | h1
    · exact ⟨by omega, fun v c' _ _ _ _ => by omega⟩
    · rcases G.lm u hu with h | ⟨c2, h2, h3, h4, h5, _⟩
      · omega
      · refine ⟨by omega, fun v c' hv hvu hb hc' hh => ?_⟩
        rw [show left + c' = left + c2 by omega, h5] at hb
        omega
  refine ⟨G.po, G.pl, G.fe, fun v hv => ?_, fun c1 h1 h2 => ?_, fun v hv hk h => ?_, fun v hv hj => ?_, fun c1 h1 h2 h3 => ?_⟩
  · by_cases h : v = u
    · subst h
      exact .inr ⟨c, hc, by rw [← hx]; exact xx.1, by rw [bu, hx], by rw [← hx, bx], e, t⟩
    · rcases G.lm v hv with h1 | ⟨c1, h1, h2, h3, h4, h5⟩
      · exact .inl (by rw [bo v (by omega) h]; exact h1)
      · exact .inr ⟨c1, h1, xx.2 v c1 hv h h4 h1, by rw [bo v (by omega) h]; exact h3, by rw [bo _ h2 (by omega)]; exact h4, h5⟩
  · by_cases h : left + c1 = x
    · exact .inr ⟨u, hu, by rw [h]; exact bx, by rw [h]; exact bu⟩
    · rw [bo _ h (by omega)]
      rcases G.rm c1 h1 h with h3 | ⟨v, h3, h4, h5⟩
      · exact .inl h3
      · refine .inr ⟨v, h3, h4, ?_⟩
        rw [bo v (by omega) (fun k => by
          subst k
          rcases hx' with ⟨a, _⟩ | a <;> omega)]
        exact h5
  · by_cases h1 : v = u
    · subst h1; rw [bu] at h; omega
    · rw [bo v (by omega) h1] at h; exact G.l0 v hv hk h
  · rw [bo v (by omega) (by omega)]; exact G.un v hv hj
  · by_cases h : left + c1 = x
    · rw [h, bx] at h3; omega
    · rw [bo _ h (by omega)] at h3; exact G.r0 c1 h1 h h3
theorem TrP.open_ (G : TrP left wd k j (left + wd) W E pot by_) {c : Nat} (hc : c < wd) (hb : by_ (left + c) = -1) : TrP left wd k j (left + c) W E pot by_ := by
  refine ⟨G.po, G.pl, G.fe, fun v hv => ?_, fun c1 h1 h2 => G.rm c1 h1 (by omega), G.l0, G.un, fun c1 h1 h2 => G.r0 c1 h1 (by omega)⟩
  rcases G.lm v hv with h | ⟨c1, h1, h2, h3, h4, h5⟩
  · exact .inl h
  · refine .inr ⟨c1, h1, fun e => ?_, h3, h4, h5⟩
    rw [e, hb] at h4; omega
theorem TrP.drop (G : TrP left wd k j (left + wd) W E pot by_) {v w : Nat} (hv : v < left) (hb : by_ v = (w : Int)) (h0 : pot v = 0) : TrP left wd k j w W E pot (upd by_ v (-1)) := by
  rcases G.lm v hv with h | ⟨c, hc, _, h2, h3, _⟩
  · omega
  have hw : w = left + c := by omega
  subst hw
  refine ⟨G.po, G.pl, G.fe, fun u hu => ?_, fun c1 h1 h2 => ?_, fun u hu hk h => ?_, fun u hu hj => ?_, fun c1 h1 h2 h4 => ?_⟩
  · by_cases e : u = v
    · subst e; exact .inl upd_at
    · rw [upd_ne e]
      rcases G.lm u hu with h | ⟨c1, h1, h2, h4, h5, h6⟩
      · exact .inl h
      · refine .inr ⟨c1, h1, fun k => ?_, h4, by rw [upd_ne (by omega)]; exact h5, h6⟩
        rw [k, h3] at h5; omega
  · rw [upd_ne (by omega)]
    rcases G.rm c1 h1 (by omega) with h | ⟨u, h4, h5, h6⟩
    · exact .inl h
    · exact .inr ⟨u, h4, h5, by rw [upd_ne (by rintro rfl; omega)]; exact h6⟩
  · by_cases e : u = v
    · subst e; exact h0
    · rw [upd_ne e] at h; exact G.l0 u hu hk h
  · by_cases e : u = v
    · subst e; exact upd_at
    · rw [upd_ne e]; exact G.un u hu hj
  · rw [upd_ne (by omega)] at h4; exact G.r0 c1 h1 (by omega) h4
theorem TrP.more (G : TrP left wd k (k + 1) (left + wd) W E pot by_) (h : by_ k = -1 → pot k = 0) : TrP left wd (k + 1) (k + 1) (left + wd) W E pot by_ :=
  ⟨G.po, G.pl, G.fe, G.lm, G.rm, fun v hv hk hb => by
    by_cases e : v = k
    · subst e; exact h hb
    · exact G.l0 v hv (by omega) hb, G.un, G.r0⟩

/-- The search from node k: sn the nodes that have been seen, a the one whose edges are looked at, jj of them have been. -/
structure DsP (left wd k : Nat) (W : Nat → Nat → Int) (E : Nat → Nat → Prop) (pot by_ dist via : Nat → Int) (rk_ : Nat → Nat) (sn : List Nat) (a jj t : Nat) : Prop where
  nd : sn.Nodup
  lt : ∀ x, x ∈ sn → x < left + wd
  sk : k ∈ sn
  ak : a ∈ sn ∧ a < left
  sl : ∀ v, v ∈ sn → v < left → v = k ∨ ∃ c, c < wd ∧ by_ v = ((left + c : Nat) : Int) ∧ left + c ∈ sn ∧ rk_ (left + c) ≤ rk_ v
  sr : ∀ c, left + c ∈ sn → ∃ v, v < left ∧ by_ (left + c) = (v : Int) ∧ v ∈ sn ∧ dist v = dist (left + c)
  vi : ∀ c, c < wd → dist (left + c) < farI → ∃ u, u < left ∧ via (left + c) = (u : Int) ∧ u ∈ sn ∧ E u c ∧ dist (left + c) = dist u + pot u + pot (left + c) - W u c ∧ (left + c ∈ sn → rk_ u < rk_ (left + c))
  rx : ∀ v c, v ∈ sn → v < left → c < wd → E v c → (v = a → c < jj) → dist (left + c) ≤ dist v + pot v + pot (left + c) - W v c
  mo : ∀ x, x ∈ sn → 0 ≤ dist x ∧ dist x ≤ dist a
  fr : ∀ c, c < wd → left + c ∉ sn → dist a ≤ dist (left + c) ∧ dist (left + c) ≤ farI
  rt : ∀ x, x ∈ sn → rk_ x ≤ t
  ba : dist a ≤ 1048576
/-- What the queue holds. -/
structure QsP (left wd : Nat) (dist key : Nat → Int) (held : Nat → Bool) (sn : List Nat) : Prop where
  lf : ∀ v, v < left → held v = false
  hd : ∀ c, c < wd → (held (left + c) = true ↔ dist (left + c) < farI ∧ left + c ∉ sn)
  ky : ∀ c, c < wd → held (left + c) = true → key (left + c) = dist (left + c)
variable {dist via key : Nat → Int} {rk_ : Nat → Nat} {sn : List Nat} {a jj t : Nat} {held : Nat → Bool}
theorem DsP.start (hk : k < left) : DsP left wd k W E pot by_ (fun v => if v = k then 0 else farI) via rk_ [k] k 0 (rk_ k) := by
  have e := farI_eq
  refine ⟨by simp, fun x hx => ?_, List.mem_singleton.2 rfl, ⟨List.mem_singleton.2 rfl, hk⟩, fun v hv _ => .inl (List.mem_singleton.1 hv), fun c hc => ?_, fun c hc h => ?_, fun v c hv _ _ _ h => ?_, fun x hx => ?_, fun c hc _ => ?_, fun x hx => ?_, ?_⟩
  · have := List.mem_singleton.1 hx; omega
  · have := List.mem_singleton.1 hc; omega
  · (try dsimp only at h); rw [if_neg (by omega)] at h; omega
  · have := h (List.mem_singleton.1 hv); omega
  · rw [List.mem_singleton] at hx; subst hx; simp
  · (try dsimp only); rw [if_pos rfl, if_neg (by omega)]; omega
  · rw [List.mem_singleton] at hx; subst hx; exact Nat.le_refl _
  · (try dsimp only); rw [if_pos rfl]; omega
theorem QsP.start (hk : k < left) : QsP left wd (fun v => if v = k then 0 else farI) key (fun _ => false) [k] :=
  ⟨fun _ _ => rfl, fun c hc => ⟨fun h => (by cases h), fun h => (by have h2 := h.1; (try dsimp only at h2); rw [if_neg (by omega)] at h2; omega)⟩, fun c hc h => (by cases h)⟩
theorem DsP.no (D : DsP left wd k W E pot by_ dist via rk_ sn a jj t) (h : ¬ E a jj ∨ dist (left + jj) ≤ dist a + pot a + pot (left + jj) - W a jj) : DsP left wd k W E pot by_ dist via rk_ sn a (jj + 1) t := by
  refine ⟨D.nd, D.lt, D.sk, D.ak, D.sl, D.sr, D.vi, fun v c hv hl hc he ha => ?_, D.mo, D.fr, D.rt, D.ba⟩
  by_cases e : v = a ∧ c = jj
  · obtain ⟨rfl, rfl⟩ := e
    rcases h with h | h
    · exact absurd he h
    · exact h
  · exact D.rx v c hv hl hc he fun e2 => by
      have := ha e2
      by_cases e3 : c = jj
      · exact absurd ⟨e2, e3⟩ e
      · omega
theorem DsP.fresh (D : DsP left wd k W E pot by_ dist via rk_ sn a jj t) (fe : W a jj ≤ pot a + pot (left + jj)) (h : dist a + pot a + pot (left + jj) - W a jj < dist (left + jj)) : left + jj ∉ sn := fun k => by
  have := D.mo _ k; omega
theorem DsP.yes (D : DsP left wd k W E pot by_ dist via rk_ sn a jj t) (hj : jj < wd) (fe : W a jj ≤ pot a + pot (left + jj)) (he : E a jj) (h : dist a + pot a + pot (left + jj) - W a jj < dist (left + jj)) :
    DsP left wd k W E pot by_ (upd dist (left + jj) (dist a + pot a + pot (left + jj) - W a jj)) (upd via (left + jj) a) rk_ sn a (jj + 1) t := by
  have ns := D.fresh fe h
  have fr := (D.fr jj hj ns).2
  have al := D.ak.2
  have dn : ∀ x, x ∈ sn → upd dist (left + jj) (dist a + pot a + pot (left + jj) - W a jj) x = dist x := fun x hx => upd_ne (by rintro rfl; exact ns hx)
  have dj : upd dist (left + jj) (dist a + pot a + pot (left + jj) - W a jj) (left + jj) = dist a + pot a + pot (left + jj) - W a jj := upd_at
  have dc : ∀ c, c ≠ jj → upd dist (left + jj) (dist a + pot a + pot (left + jj) - W a jj) (left + c) = dist (left + c) := fun c hc => upd_ne (by omega)
  generalize upd dist (left + jj) (dist a + pot a + pot (left + jj) - W a jj) = dist' at *
  have da := dn a D.ak.1
  refine ⟨D.nd, D.lt, D.sk, D.ak, D.sl, fun c hc => ?_, fun c hc hf => ?_, fun v c hv hl hc he2 ha => ?_, fun x hx => ?_, fun c hc hn => ?_, D.rt, by rw [da]; exact D.ba⟩
  · obtain ⟨v, h1, h2, h3, h4⟩ := D.sr c hc
    exact ⟨v, h1, h2, h3, by rw [dn v h3, dn _ hc, h4]⟩
  · by_cases e : c = jj
    · subst e
      refine ⟨a, al, upd_at, D.ak.1, he, by rw [da]; exact dj, fun k => absurd k ns⟩
    · rw [dc c e] at hf ⊢
      obtain ⟨u, h1, h2, h3, h4, h5, h6⟩ := D.vi c hc hf
      exact ⟨u, h1, by rw [upd_ne (by omega)]; exact h2, h3, h4, by rw [dn u h3]; exact h5, h6⟩
  · rw [dn v hv]
    by_cases e : c = jj
    · subst e
      rw [dj]
      by_cases e2 : v = a
      · subst e2; omega
      · have := D.rx v c hv hl hc he2 (fun k => absurd k e2); omega
    · rw [dc c e]
      exact D.rx v c hv hl hc he2 fun e2 => by have := ha e2; omega
  · rw [dn x hx, da]; exact D.mo x hx
  · rw [da]
    by_cases e : c = jj
    · subst e; rw [dj]; omega
    · rw [dc c e]; exact D.fr c hc hn
theorem QsP.yes (Q : QsP left wd dist key held sn) {d : Int} (hd : d < farI) (hn : left + jj ∉ sn) : QsP left wd (upd dist (left + jj) d) (upd key (left + jj) d) (updB held (left + jj) true) sn := by
  refine ⟨fun v hv => ?_, fun c hc => ?_, fun c hc h => ?_⟩
  · unfold updB; rw [if_neg (by omega)]; exact Q.lf v hv
  · unfold updB
    by_cases e : c = jj
    · subst e; rw [if_pos rfl, upd_at]; exact ⟨fun _ => ⟨hd, hn⟩, fun _ => rfl⟩
    · rw [if_neg (by omega), upd_ne (by omega)]; exact Q.hd c hc
  · by_cases e : c = jj
    · subst e; rw [upd_at, upd_at]
    · rw [upd_ne (by omega), upd_ne (by omega)]
      unfold updB at h; rw [if_neg (by omega)] at h
      exact Q.ky c hc h
theorem QsP.yes2 (Q : QsP left wd dist key held sn) {d : Int} (hd : d < farI) (hn : left + jj ∉ sn) (hh : held (left + jj) = true) : QsP left wd (upd dist (left + jj) d) (upd key (left + jj) d) held sn := by
  have e : updB held (left + jj) true = held := by
    funext x; unfold updB; split
    · rename_i h; rw [h, hh]
    · rfl
  have := Q.yes hd hn
  rwa [e] at this
theorem DsP.pop (D : DsP left wd k W E pot by_ dist via rk_ sn a wd t) (G : TrP left wd k k (left + wd) W E pot by_) {c v : Nat} (hc : c < wd) (hn : left + c ∉ sn) (hm : ∀ c', c' < wd → left + c' ∉ sn → dist (left + c) ≤ dist (left + c')) (hb : by_ (left + c) = (v : Int)) (hd : dist (left + c) ≤ 1048576) (hk : k < left) :
    v < left ∧ v ∉ sn ∧ DsP left wd k W E pot by_ (upd dist v (dist (left + c))) via (fun x => if x = left + c ∨ x = v then t + 1 else rk_ x) (sn ++ [left + c, v]) v 0 (t + 1) := by
  have ef := farI_eq
  obtain ⟨hv, hbv⟩ : v < left ∧ by_ v = ((left + c : Nat) : Int) := by
    rcases G.rm c hc (by omega) with h | ⟨v', h1, h2, h3⟩
    · omega
    · have : v' = v := by omega
      subst this; exact ⟨h1, h3⟩
  have vn : v ∉ sn := fun h => by
    rcases D.sl v h hv with h1 | ⟨c', h1, h2, h3, _⟩
    · subst h1
      have := G.un v hv (Nat.le_refl _)
      omega
    · rw [hbv] at h2
      exact hn (by rw [show left + c = left + c' by omega]; exact h3)
  refine ⟨hv, vn, ?_⟩
  have dn : ∀ x, x ∈ sn → upd dist v (dist (left + c)) x = dist x := fun x hx => upd_ne (by rintro rfl; exact vn hx)
  have dv : upd dist v (dist (left + c)) v = dist (left + c) := upd_at
  have dr : ∀ c', upd dist v (dist (left + c)) (left + c') = dist (left + c') := fun c' => upd_ne (by omega)
  generalize upd dist v (dist (left + c)) = dist' at *
  have rn : ∀ x, x ∈ sn → (if x = left + c ∨ x = v then t + 1 else rk_ x) = rk_ x := fun x hx => if_neg (by
    rintro (rfl | rfl)
    · exact hn hx
    · exact vn hx)
  have hda := (D.fr c hc hn).1
  have m3 : ∀ x, x ∈ sn ++ [left + c, v] ↔ x ∈ sn ∨ x = left + c ∨ x = v := fun x => by simp
  refine ⟨?_, fun x hx => ?_, (m3 _).2 (.inl D.sk), ⟨(m3 _).2 (.inr (.inr rfl)), hv⟩, fun u hu hl => ?_, fun c1 h1 => ?_, fun c1 h1 h2 => ?_, fun u c1 hu hl h1 he ha => ?_, fun x hx => ?_, fun c1 h1 h2 => ?_, fun x hx => ?_, by rw [dv]; exact hd⟩
  · rw [List.nodup_append]
    refine ⟨D.nd, ?_, fun x hx y hy => ?_⟩
    · simp; omega
    · have : y = left + c ∨ y = v := by simpa using hy
      rintro rfl
      rcases this with rfl | rfl
      · exact hn hx
      · exact vn hx
  · rcases (m3 x).1 hx with h | rfl | rfl
    · exact D.lt x h
    · omega
    · omega
  · rcases (m3 u).1 hu with h | h | rfl
    · rcases D.sl u h hl with h1 | ⟨c', h1, h2, h3, h4⟩
      · exact .inl h1
      · exact .inr ⟨c', h1, h2, (m3 _).2 (.inl h3), by (try dsimp only); rw [rn _ h3, rn _ h]; exact h4⟩
    · omega
    · exact .inr ⟨c, hc, hbv, (m3 _).2 (.inr (.inl rfl)), by (try dsimp only); rw [if_pos (.inl rfl), if_pos (.inr rfl)]; exact Nat.le_refl _⟩
  · rcases (m3 _).1 h1 with h | h | h
    · obtain ⟨v1, a1, a2, a3, a4⟩ := D.sr c1 h
      exact ⟨v1, a1, a2, (m3 _).2 (.inl a3), by rw [dn v1 a3, dr, a4]⟩
    · have : c1 = c := by omega
      subst this
      exact ⟨v, hv, hb, (m3 _).2 (.inr (.inr rfl)), by rw [dv, dr]⟩
    · omega
  · rw [dr] at h2 ⊢
    obtain ⟨u, a1, a2, a3, a4, a5, a6⟩ := D.vi c1 h1 h2
    refine ⟨u, a1, a2, (m3 _).2 (.inl a3), a4, by rw [dn u a3]; exact a5, fun h => ?_⟩
    try dsimp only
    rw [rn u a3]
    rcases (m3 _).1 h with h | h | h
    · rw [rn _ h]; exact a6 h
    · rw [if_pos (.inl h)]; have := D.rt u a3; omega
    · omega
  · rw [dr]
    rcases (m3 u).1 hu with h | h | h
    · rw [dn u h]
      exact D.rx u c1 h hl h1 he fun _ => h1
    · omega
    · have := ha h; omega
  · rw [dv]
    have m := D.mo a D.ak.1
    rcases (m3 x).1 hx with h | rfl | rfl
    · rw [dn x h]; have := D.mo x h; omega
    · rw [dr]; omega
    · rw [dv]; omega
  · rw [dv, dr]
    have hn1 : left + c1 ∉ sn := fun k => h2 ((m3 _).2 (.inl k))
    exact ⟨hm c1 h1 hn1, (D.fr c1 h1 hn1).2⟩
  · try dsimp only
    rcases (m3 x).1 hx with h | h | h
    · rw [rn x h]; have := D.rt x h; omega
    · rw [if_pos (.inl h)]; exact Nat.le_refl _
    · rw [if_pos (.inr h)]; exact Nat.le_refl _
theorem QsP.pop (Q : QsP left wd dist key held sn) {c v : Nat} {d : Int} (hc : c < wd) (hv : v < left) : QsP left wd (upd dist v d) key (updB held (left + c) false) (sn ++ [left + c, v]) := by
  have m3 : ∀ x, x ∈ sn ++ [left + c, v] ↔ x ∈ sn ∨ x = left + c ∨ x = v := fun x => by simp
  refine ⟨fun u hu => ?_, fun c1 h1 => ?_, fun c1 h1 h => ?_⟩
  · unfold updB; rw [if_neg (by omega)]; exact Q.lf u hu
  · rw [upd_ne (by omega)]
    unfold updB
    by_cases e : c1 = c
    · subst e; rw [if_pos rfl]; exact ⟨fun h => (by cases h), fun h => absurd ((m3 _).2 (.inr (.inl rfl))) h.2⟩
    · rw [if_neg (by omega), Q.hd c1 h1]
      refine ⟨fun h => ⟨h.1, fun k => ?_⟩, fun h => ⟨h.1, fun k => h.2 ((m3 _).2 (.inl k))⟩⟩
      rcases (m3 _).1 k with k | k | k
      · exact h.2 k
      · omega
      · omega
  · rw [upd_ne (by omega)]
    unfold updB at h
    by_cases e : c1 = c
    · subst e; rw [if_pos rfl] at h; cases h
    · rw [if_neg (by omega)] at h; exact Q.ky c1 h1 h
/-- The potentials behind a search. -/
noncomputable def npT (left : Nat) (pot dist : Nat → Int) (best : Int) (sn : List Nat) (v : Nat) : Int :=
  if v ∈ sn then (if v < left then pot v - (best - dist v) else pot v + (best - dist v)) else pot v
theorem npT_l {best : Int} {v : Nat} (h : v ∈ sn) (hv : v < left) : npT left pot dist best sn v = pot v - (best - dist v) := by unfold npT; rw [if_pos h, if_pos hv]
theorem npT_r {best : Int} {v : Nat} (h : v ∈ sn) (hv : ¬ v < left) : npT left pot dist best sn v = pot v + (best - dist v) := by unfold npT; rw [if_pos h, if_neg hv]
theorem npT_n {best : Int} {v : Nat} (h : v ∉ sn) : npT left pot dist best sn v = pot v := by unfold npT; rw [if_neg h]
theorem DsP.npot (D : DsP left wd k W E pot by_ dist via rk_ sn a wd t) (G : TrP left wd k k (left + wd) W E pot by_) (hE : ∀ v c, ¬ E v c → W v c = 0) {best : Int} (hb : ∀ v, v ∈ sn → v < left → best ≤ dist v + pot v) (ha : dist a ≤ best)
    (hx : ∀ c, c < wd → left + c ∉ sn → best ≤ dist (left + c)) (hbd : best ≤ 1048576) (hk : k < left) : TrP left wd k (k + 1) (left + wd) W E (npT left pot dist best sn) by_ := by
  have po' : ∀ v, v < left + wd → 0 ≤ npT left pot dist best sn v ∧ npT left pot dist best sn v ≤ ((k + 1 + 1 : Nat) : Int) * 1048576 := fun v hv => by
    have p := G.po v hv
    by_cases h : v ∈ sn
    · have m := D.mo v h
      by_cases hl : v < left
      · rw [npT_l h hl]; have := hb v h hl; omega
      · rw [npT_r h hl]; omega
    · rw [npT_n h]; omega
  have mt : ∀ v, v < left → ∀ c, c < wd → by_ v = ((left + c : Nat) : Int) → by_ (left + c) = (v : Int) → npT left pot dist best sn v + npT left pot dist best sn (left + c) = pot v + pot (left + c) := fun v hv c hc h1 h2 => by
    by_cases h : v ∈ sn
    · have hc2 : left + c ∈ sn := by
        rcases D.sl v h hv with e | ⟨c', h3, h4, h5, _⟩
        · subst e; have := G.un v hv (Nat.le_refl _); omega
        · rw [show left + c = left + c' by omega]; exact h5
      obtain ⟨v1, a1, a2, a3, a4⟩ := D.sr c hc2
      have : v1 = v := by omega
      subst this
      rw [npT_l h hv, npT_r hc2 (by omega)]; omega
    · have hc2 : left + c ∉ sn := fun k => by
        obtain ⟨v1, a1, a2, a3, a4⟩ := D.sr c k
        have : v1 = v := by omega
        subst this; exact h a3
      rw [npT_n h, npT_n hc2]
  refine ⟨po', fun v hv => ?_, fun v c hv hc => ?_, fun v hv => ?_, G.rm, fun v hv hvk h => ?_, fun v hv h => G.un v hv (by omega), fun c hc hne h => ?_⟩
  · have p := G.pl v hv
    by_cases h : v ∈ sn
    · rw [npT_l h hv]; have := D.mo v h; omega
    · rw [npT_n h]; exact p
  · have p1 := po' v (by omega)
    have p2 := po' (left + c) (by omega)
    by_cases e : E v c
    · have f := G.fe v c hv hc
      by_cases h : v ∈ sn
      · have r := D.rx v c h hv hc e fun _ => hc
        rw [npT_l h hv]
        by_cases h2 : left + c ∈ sn
        · rw [npT_r h2 (by omega)]; omega
        · rw [npT_n h2]; have := hx c hc h2; omega
      · rw [npT_n h]
        by_cases h2 : left + c ∈ sn
        · rw [npT_r h2 (by omega)]; have := D.mo _ h2; omega
        · rw [npT_n h2]; exact f
    · rw [hE v c e]; omega
  · rcases G.lm v hv with h | ⟨c, h1, h2, h3, h4, h5, h6⟩
    · exact .inl h
    · exact .inr ⟨c, h1, h2, h3, h4, h5, by rw [mt v hv c h1 h3 h4]; exact h6⟩
  · have : v ∉ sn := fun k => by
      rcases D.sl v k hv with e | ⟨c', h3, h4, h5, _⟩ <;> omega
    rw [npT_n this]; exact G.l0 v hv hvk h
  · have : left + c ∉ sn := fun k => by
      obtain ⟨v1, a1, a2, _⟩ := D.sr c k; omega
    rw [npT_n this]; exact G.r0 c hc hne h
/-- The way back. -/
structure WyP (left wd k : Nat) (W : Nat → Nat → Int) (E : Nat → Nat → Prop) (pot by0 via : Nat → Int) (rk_ : Nat → Nat) (Y : Nat → Prop) : Prop where
  wy : ∀ c, c < wd → Y (left + c) → ∃ u, u < left ∧ u ≤ k ∧ via (left + c) = (u : Int) ∧ E u c ∧ pot u + pot (left + c) = W u c ∧ rk_ u < rk_ (left + c) ∧
    (u = k ∧ by0 u = -1 ∨ u ≠ k ∧ ∃ c', c' < wd ∧ by0 u = ((left + c' : Nat) : Int) ∧ Y (left + c') ∧ rk_ (left + c') ≤ rk_ u)
theorem DsP.way (D : DsP left wd k W E pot by_ dist via rk_ sn a wd t) (G : TrP left wd k k (left + wd) W E pot by_) {w : Nat} {best : Int} (hk : k < left) (hbd : best ≤ 1048576) (ha : dist a ≤ best) (hw : w ∉ sn) (hw2 : w < left + wd → left ≤ w ∧ dist w = best) (hlw : left ≤ w) :
    WyP left wd k W E (npT left pot dist best sn) by_ via (fun x => if x = w then t + 1 else rk_ x) (fun y => y ∈ sn ∨ y = w) := by
  have ef := farI_eq
  refine ⟨fun c hc hY => ?_⟩
  have hf : dist (left + c) < farI := by
    rcases hY with h | h
    · have := D.mo _ h; omega
    · rw [h]; have := hw2 (by omega); omega
  obtain ⟨u, a1, a2, a3, a4, a5, a6⟩ := D.vi c hc hf
  have ru : (if u = w then t + 1 else rk_ u) = rk_ u := if_neg (by omega)
  refine ⟨u, a1, ?_, a2, a4, ?_, ?_, ?_⟩
  · rcases D.sl u a3 a1 with h | ⟨c', h1, h2, _⟩
    · omega
    · rcases Nat.lt_or_ge u k with h | h
      · omega
      · have := G.un u a1 h; omega
  · rw [npT_l a3 a1]
    rcases hY with h | h
    · rw [npT_r h (by omega)]; omega
    · have h2 := hw2 (by omega)
      rw [← h] at hw h2
      rw [npT_n hw]; omega
  · try dsimp only
    rw [ru]
    by_cases e : left + c = w
    · rw [if_pos e]; have := D.rt u a3; omega
    · rw [if_neg e]
      rcases hY with h | h
      · exact a6 h
      · exact absurd h e
  · rcases D.sl u a3 a1 with h | ⟨c', h1, h2, h3, h4⟩
    · exact .inl ⟨h, by rw [h]; exact G.un k hk (Nat.le_refl _)⟩
    · refine .inr ⟨fun e => ?_, c', h1, h2, .inl h3, ?_⟩
      · rw [e, G.un k hk (Nat.le_refl _)] at h2; omega
      · try dsimp only
        rw [ru, if_neg (show ¬ left + c' = w from fun e => hw (e ▸ h3))]; exact h4

variable {m : Nat} {es : Nat → Ed} {bs : Nat → Nat → Nat}
/-- The edges of the first j nodes. -/
def mlT (left : Nat) (bs : Nat → Nat → Nat) (by_ : Nat → Int) : Nat → List Nat
  | 0 => []
  | j + 1 => mlT left bs by_ j ++ if 0 ≤ by_ j then [bs j ((by_ j).toNat - left) - 1] else []
theorem mlT_mem {x : Nat} : ∀ {j : Nat}, x ∈ mlT left bs by_ j → ∃ v, v < j ∧ 0 ≤ by_ v ∧ x = bs v ((by_ v).toNat - left) - 1
  | 0, h => by cases h
  | j + 1, h => by
    have h : x ∈ mlT left bs by_ j ++ if 0 ≤ by_ j then [bs j ((by_ j).toNat - left) - 1] else [] := h
    rw [List.mem_append] at h
    rcases h with h | h
    · obtain ⟨c, hc, h1, h2⟩ := mlT_mem h
      exact ⟨c, by omega, h1, h2⟩
    · split at h
      · rename_i hh
        rw [List.mem_singleton] at h
        exact ⟨j, by omega, hh, h⟩
      · cases h
theorem mlT_len : ∀ {j : Nat}, (mlT left bs by_ j).length ≤ j
  | 0 => Nat.le_refl _
  | j + 1 => by
    have := mlT_len (j := j)
    show (mlT left bs by_ j ++ if 0 ≤ by_ j then [bs j ((by_ j).toNat - left) - 1] else []).length ≤ j + 1
    rw [List.length_append]
    split <;> simp <;> omega
/-- The column of a node. -/
theorem TrP.col (G : TrP left wd k j x W E pot by_) {v : Nat} (hv : v < left) (h : 0 ≤ by_ v) : ∃ c, c < wd ∧ by_ v = ((left + c : Nat) : Int) ∧ (by_ v).toNat - left = c ∧ by_ (left + c) = (v : Int) ∧ E v c ∧ pot v + pot (left + c) = W v c := by
  rcases G.lm v hv with h1 | ⟨c, h1, h2, h3, h4, h5, h6⟩
  · omega
  · exact ⟨c, h1, h3, by omega, h4, h5, h6⟩
theorem TrP.res (G : TrP left wd left left (left + wd) (wgE es bs) (fun v c => 0 < bs v c) pot by_) (hl : left + wd ≤ 1024) (B : BsP left wd m es bs) (hs : ∀ i, i < m → lfE es i < left ∧ left ≤ rtE es i ∧ rtE es i < left + wd) :
    MaR (left + wd) m left es (mlT left bs by_ left) pot := by
  have nd : ∀ j, j ≤ left → (mlT left bs by_ j).Pairwise fun i j => lfE es i ≠ lfE es j ∧ rtE es i ≠ rtE es j := by
    intro j
    induction j with
    | zero => exact fun _ => List.Pairwise.nil
    | succ j ih =>
      intro hj
      show (mlT left bs by_ j ++ if 0 ≤ by_ j then [bs j ((by_ j).toNat - left) - 1] else []).Pairwise _
      rw [List.pairwise_append]
      refine ⟨ih (by omega), ?_, fun x hx y hy => ?_⟩
      · split
        · exact List.pairwise_singleton _ _
        · exact List.Pairwise.nil
      · split at hy
        · rename_i hh
          rw [List.mem_singleton] at hy
          obtain ⟨v, hv, h1, h2⟩ := mlT_mem hx
          obtain ⟨c, c1, c2, c3, c4, c5, _⟩ := G.col (v := v) (by omega) h1
          obtain ⟨d, d1, d2, d3, d4, d5, _⟩ := G.col (v := j) (by omega) hh
          try dsimp only at c5 d5
          rw [c3] at h2
          rw [d3] at hy
          obtain ⟨a1, a2, _⟩ := B.bw v c x (by omega) c1 (by omega)
          obtain ⟨b1, b2, _⟩ := B.bw j d y (by omega) d1 (by omega)
          refine ⟨by omega, fun e => ?_⟩
          rw [show c = d by omega, d4] at c4
          omega
        · cases hy
  have sm : ∀ j, j ≤ left → lkE es (mlT left bs by_ j) = sumN j fun v => if 0 ≤ by_ v then wgE es bs v ((by_ v).toNat - left) else 0 := by
    intro j
    induction j with
    | zero => exact fun _ => rfl
    | succ j ih =>
      intro hj
      show lkE es (mlT left bs by_ j ++ if 0 ≤ by_ j then [bs j ((by_ j).toNat - left) - 1] else []) = sumN j _ + (if 0 ≤ by_ j then wgE es bs j ((by_ j).toNat - left) else 0)
      rw [lkE_app, ih (by omega)]
      congr 1
      by_cases h : 0 ≤ by_ j
      · obtain ⟨c, c1, c2, c3, c4, c5, _⟩ := G.col (v := j) (by omega) h
        try dsimp only at c5
        rw [if_pos h, if_pos h, c3]
        unfold wgE
        rw [if_pos c5]
        show (es _).k + 0 = _
        omega
      · rw [if_neg h, if_neg h]; rfl
  refine ⟨fun i hi => ?_, nd _ (Nat.le_refl _), fun v hv => ?_, fun i hi => ?_, ?_, ?_⟩
  · obtain ⟨v, hv, h1, h2⟩ := mlT_mem hi
    obtain ⟨c, c1, c2, c3, c4, c5, _⟩ := G.col hv h1
    try dsimp only at c5
    have := B.bm v c hv c1
    rw [c3] at h2
    omega
  · have := G.po v hv; omega
  · obtain ⟨a1, a2, a3⟩ := hs i hi
    obtain ⟨c, hc⟩ : ∃ c, rtE es i = left + c := ⟨rtE es i - left, by omega⟩
    have e : pot (frE es i) + pot (toE es i) = pot (lfE es i) + pot (rtE es i) := by
      unfold lfE rtE
      rcases Nat.le_total (frE es i) (toE es i) with h | h
      · rw [Nat.min_eq_left h, Nat.max_eq_right h]
      · rw [Nat.min_eq_right h, Nat.max_eq_left h]; omega
    rw [e, hc]
    have p1 := G.po (lfE es i) (by omega)
    have p2 := G.po (left + c) (by omega)
    by_cases h0 : 0 < (es i).k
    · obtain ⟨b1, b2⟩ := B.le i _ c hi a1 (by omega) rfl hc h0
      have f := G.fe _ c a1 (by omega)
      unfold wgE at f
      rw [if_pos b1] at f
      omega
    · omega
  · rw [sm _ (Nat.le_refl _), sumN_split]
    have e1 : (sumN wd fun c => pot (left + c)) = sumN wd fun c => sumN left fun v => if by_ v = ((left + c : Nat) : Int) then pot (left + c) else 0 := sumN_congr fun c hc => by
      rcases G.rm c hc (by omega) with h | ⟨v, h1, h2, h3⟩
      · rw [G.r0 c hc (by omega) h]
        exact (sumN_zero fun u hu => by split <;> rfl).symm
      · refine Eq.trans (show pot (left + c) = sumN left fun u => if v = u then pot (left + c) else 0 by rw [sumN_pt, if_pos h1]) (sumN_congr fun u hu => ?_)
        by_cases e : v = u
        · subst e; rw [if_pos rfl, if_pos h3]
        · rw [if_neg e, if_neg (fun h => ?_)]
          rcases G.lm u hu with k | ⟨c', k1, k2, k3, k4, _⟩
          · omega
          · rw [show left + c' = left + c by omega, h2] at k4
            omega
    have e2 : (sumN left fun v => sumN wd fun c => if by_ v = ((left + c : Nat) : Int) then pot (left + c) else 0) = sumN left fun v => if 0 ≤ by_ v then pot (left + ((by_ v).toNat - left)) else 0 := sumN_congr fun v hv => by
      by_cases h : 0 ≤ by_ v
      · obtain ⟨c, c1, c2, c3, c4, c5, _⟩ := G.col hv h
        rw [if_pos h, c3, ← sumN_ptf (f := fun c => pot (left + c)) c1]
        refine sumN_congr fun c' _ => ?_
        by_cases e : c = c'
        · subst e; rw [if_pos c2, if_pos rfl]
        · rw [if_neg e, if_neg (by omega)]
      · rw [if_neg h]
        exact sumN_zero fun c _ => if_neg (by omega)
    rw [e1, sumN_swap, e2, ← sumN_add]
    refine sumN_congr fun v hv => ?_
    by_cases h : 0 ≤ by_ v
    · obtain ⟨c, c1, c2, c3, c4, c5, c6⟩ := G.col hv h
      rw [if_pos h, if_pos h, c3]; exact c6
    · rw [if_neg h, if_neg h]
      have : by_ v = -1 := by
        rcases G.lm v hv with h1 | ⟨c, h1, h2, h3, _⟩ <;> omega
      rw [G.l0 v hv hv this]; rfl
  · have := mlT_len (left := left) (bs := bs) (by_ := by_) (j := left)
    omega
end

end Go.Proofs.YtdcamadeblojdaaGreat

namespace Go.Proofs.YtdcamadeblojdaaGreat
open Go
open Classical
set_option linter.unusedVariables false
set_option linter.unusedSimpArgs false
set_option maxHeartbeats 2000000

/-- What looks for a way from each node, in the heap. -/
structure Rtr (own : Own) (h : H) (bx bt left wd : Nat) (vp vy : Value) (pot by_ : Nat → Int) : Prop where
  k4 : B1 own h 4 bx [.pointer (some (bk bt)), vp, vy]
  k5 : S1 own h 5 vp (ints (left + wd) pot)
  k6 : S1 own h 6 vy (ints (left + wd) by_)
section
variable {own own' : Own} {h h' : H} {bt bx left wd m k : Nat} {es : Nat → Ed} {bs : Nat → Nat → Nat} {W : Nat → Nat → Int} {E : Nat → Nat → Prop} {pot by_ via : Nat → Int} {vp vy vv : Value} {rk_ : Nat → Nat} {Y : Nat → Prop}
theorem tturn_T (Tt : Tb own h bt left wd m es bs) (Rr : Rtr own h bx bt left wd vp vy pot by_) (k8 : S1 own h 8 vv (ints (left + wd) via)) (G : TrP left wd k (k + 1) (left + wd) W E pot by_) (Wy : WyP left wd k W E pot by_ via rk_ Y) (hk : k < left) (hbk : by_ k = -1) {en : Nat}
    (hen : (en < left ∧ pot en = 0 ∧ (en = k ∨ en ≠ k ∧ ∃ c, c < wd ∧ by_ en = ((left + c : Nat) : Int) ∧ Y (left + c) ∧ rk_ (left + c) ≤ rk_ en)) ∨ (∃ c, c < wd ∧ en = left + c ∧ by_ en = -1 ∧ Y en)) :
    T Tryz.prog F.assign_trees_turn [.pointer (some (bk bx)), .int .i64 k, .int .i64 en, vv] h fun r h' => r = .ret (.tuple ⟨[]⟩) ∧ ∃ by', Fm [6] own h own h' ∧ Rtr own h' bx bt left wd vp vy pot by' ∧ TrP left wd (k + 1) (k + 1) (left + wd) W E pot by' := by
  obtain ⟨k4, k5, k6⟩ := Rr
  obtain ⟨vb, vc, vals, k1, _⟩ := Tt.q
  refine E_assign_trees_turn ?_
  unfold B_assign_trees_turn
  let P : Int → H → Nat → Prop := fun s g z => ∃ (w c : Nat) (by1 : Nat → Int), s = (w : Int) ∧ z = rk_ w ∧ w = left + c ∧ c < wd ∧ Y w ∧ Fm [6] own h own g ∧ S1 own g 6 vy (ints (left + wd) by1) ∧ TrP left wd k (k + 1) w W E pot by1 ∧ ∀ u, u < left → rk_ u < rk_ w → by1 u = by_ u
  refine ⟨fun s g => ∃ z, P s.1 g z, ?_, ?_⟩
  · refine ptrP_mk (k4.rV rfl (ptrP_mk (k1.rI rfl (ifP_of (fun h1 => ?_) (fun h1 => ?_)))))
    · have h1 : en < left := by have := of_decide_eq_true h1; omega
      obtain ⟨_, h0, he⟩ := hen.resolve_right (by rintro ⟨c, hc, e, _⟩; omega)
      refine ifP_of (fun h2 => ?_) (fun h2 => ?_)
      · have h2 : en = k := by have := of_decide_eq_true h2; omega
        refine ⟨rfl, by_, Fm.refl, ⟨k4, k5, k6⟩, G.more fun _ => by rw [← h2]; exact h0⟩
      · have h2 : en ≠ k := by have := of_decide_eq_false h2; omega
        rcases he with he | ⟨_, c, hc, hb, hY, hr⟩
        · exact absurd he h2
        refine ptrP_mk (k4.rV rfl (k6.rdI (by omega) (ptrP_mk (k4.rV rfl (k6.setI (by omega) fun g F1 k6 => ?_)))))
        exact ⟨rk_ (left + c), left + c, c, _, hb, rfl, rfl, hc, hY, F1, k6, G.drop h1 hb h0, fun u hu hru => upd_ne (by rintro rfl; omega)⟩
    · have h1 : ¬ en < left := by have := of_decide_eq_false h1; omega
      rcases hen with ⟨e, _⟩ | ⟨c, hc, e, hb, hY⟩
      · exact absurd e h1
      subst e
      exact ⟨rk_ (left + c), left + c, c, _, rfl, rfl, rfl, hc, hY, Fm.refl, k6, G.open_ hc hb, fun _ _ _ => rfl⟩
  clear k6 hen
  intro w0 h2 hJ
  let I : (Int × Unit) → H → Nat → Prop := fun s g z => P s.1 g z
  refine ⟨fun p q => ∃ k, I p q k, rk I, rk_wf I, hJ, ?_⟩
  clear hJ
  intro w1 g hI
  have hI2 : I (w1, ()) g (mu I ((w1, ()), g)) := mu_spec hI
  obtain ⟨w, c, by1, e1, hz, hw, hc, hY, Fq, k6, G1, old⟩ := hI2
  generalize hkk : mu I ((w1, ()), g) = km at *
  change w1 = (w : Int) at e1
  subst e1
  clear hI
  obtain ⟨u, u1, u2, u3, u4, u5, u6, u7⟩ := Wy.wy c hc (hw ▸ hY)
  rw [← hw] at u3 u6
  have ou := old u u1 u6
  refine (k8.fm Fq (by simp <;> omega)).rdI (by omega) ?_
  rw [u3]
  have k4q := k4.fm Fq (by simp <;> omega)
  refine ptrP_mk (k4q.rV rfl (k6.rdI (by omega) (ptrP_mk (ptrP_mk (k4q.rV rfl (k4q.rV rfl (k6.setI (by omega) fun g1 F1 k6 => k6.setI (by omega) fun g2 F2 k6 => ?_)))))))
  have Fq := Fq.trans (F1.trans F2)
  refine ifP_of (fun h1 => ?_) (fun h1 => ?_)
  · have h1 : u = k := by have := of_decide_eq_true h1; omega
    subst h1
    have G2 := G1.step u1 (by omega) hc hw u4 u5 (.inl ⟨by rw [ou]; exact hbk, rfl⟩)
    refine ⟨rfl, _, Fq, ⟨k4.fm Fq (by simp <;> omega), k5.fm Fq (by simp <;> omega), k6⟩, G2.more fun e => ?_⟩
    rw [upd_ne (by omega), upd_at] at e
    omega
  · have h1 : u ≠ k := by have := of_decide_eq_false h1; omega
    rcases u7 with ⟨e, _⟩ | ⟨_, c', c1, c2, c3, c4⟩
    · exact absurd e h1
    have G2 := G1.step u1 (by omega) hc hw u4 u5 (.inr (ou.trans c2))
    have e5 : by1 u = ((left + c' : Nat) : Int) := ou.trans c2
    refine mu_next (I := I) (k := rk_ (left + c')) ⟨left + c', c', _, e5, rfl, rfl, c1, c3, Fq, k6, G2, fun v hv hr => ?_⟩ (by rw [hkk, hz]; omega)
    rw [upd_ne (by omega), upd_ne (by rintro rfl; omega)]
    exact old v hv (by omega)
theorem npT_take {left : Nat} {pot dist : Nat → Int} {best : Int} {sn : List Nat} (nd : sn.Nodup) {j : Nat} (hj : j < sn.length) (v : Nat) :
    npT left pot dist best (sn.take (j + 1)) v = upd (npT left pot dist best (sn.take j)) sn[j] (if sn[j] < left then pot sn[j] - (best - dist sn[j]) else pot sn[j] + (best - dist sn[j])) v := by
  have e : sn.take (j + 1) = sn.take j ++ [sn[j]] := by rw [List.take_add_one, List.getElem?_eq_getElem hj]; rfl
  rw [e]
  by_cases h : v = sn[j]
  · subst h
    rw [upd_at]
    unfold npT; rw [if_pos (List.mem_append.2 (.inr (List.mem_singleton.2 rfl)))]
  · rw [upd_ne h]
    unfold npT
    have : v ∈ sn.take j ++ [sn[j]] ↔ v ∈ sn.take j := by rw [List.mem_append, List.mem_singleton]; exact ⟨fun k => k.resolve_right h, .inl⟩
    by_cases h2 : v ∈ sn.take j
    · rw [if_pos (this.2 h2), if_pos h2]
    · rw [if_neg (fun k => h2 (this.1 k)), if_neg h2]
theorem npT_at {left : Nat} {pot dist : Nat → Int} {best : Int} {sn : List Nat} (nd : sn.Nodup) {j : Nat} (hj : j < sn.length) : npT left pot dist best (sn.take j) sn[j] = pot sn[j] := by
  refine npT_n fun h => ?_
  obtain ⟨i, hi, e⟩ := List.getElem_of_mem h
  rw [List.length_take] at hi
  rw [List.getElem_take] at e
  exact List.pairwise_iff_getElem.1 nd i j (by omega) hj (by omega) e
end

end Go.Proofs.YtdcamadeblojdaaGreat

namespace Go.Proofs.YtdcamadeblojdaaGreat
open Go
open Classical
set_option linter.unusedVariables false
set_option linter.unusedSimpArgs false
set_option maxHeartbeats 4000000

section
variable {own own' : Own} {h h' : H} {bt bx left wd m k : Nat} {es : Nat → Ed} {bs : Nat → Nat → Nat} {pot by_ : Nat → Int} {vp vy : Value}
theorem tgrow_T (Tt : Tb own h bt left wd m es bs) (B : BsP left wd m es bs) (Rr : Rtr own h bx bt left wd vp vy pot by_) (G : TrP left wd k k (left + wd) (wgE es bs) (fun v c => 0 < bs v c) pot by_) (hk : k < left)
    (hl : left + wd ≤ 1024) (hm : m ≤ 4096) (hw : ∀ v c, 0 ≤ wgE es bs v c ∧ wgE es bs v c ≤ 1048576) :
    T Tryz.prog F.assign_trees_grow [.pointer (some (bk bx)), .int .i64 k] h fun r h' => r = .ret (.tuple ⟨[]⟩) ∧ ∃ (own' : Own) (pot' by' : Nat → Int), Fm [5, 6, 7, 8, 9, 31, 32, 33, 34, 35, 36] own h own' h' ∧ Rtr own' h' bx bt left wd vp vy pot' by' ∧
      TrP left wd (k + 1) (k + 1) (left + wd) (wgE es bs) (fun v c => 0 < bs v c) pot' by' := by
  have hf := farI_eq
  have hbk : by_ k = -1 := G.un k hk (Nat.le_refl _)
  have hE : ∀ v c, ¬ 0 < bs v c → wgE es bs v c = 0 := fun v c e => by unfold wgE; rw [if_neg e]
  have plo : ∀ v, v < left + wd → 0 ≤ pot v ∧ pot v ≤ 1100000000 := fun v hv => by have := G.po v hv; omega
  have plk := G.pl k hk
  obtain ⟨k4, k5, k6⟩ := Rr
  refine E_assign_trees_grow ?_
  unfold B_assign_trees_grow
  obtain ⟨vb, vc, vals, k1, _⟩ := Tt.q
  refine ptrP_mk (ptrP_mk (k4.rV rfl (ptrP_mk (k1.rI rfl (k4.rV rfl (ptrP_mk (k1.rI rfl ?_)))))))
  clear k1
  refine mk_ints 7 (by omega) (by omega) ?_
  intro b9 h10 hb9 x9 k7
  have Ft : Fm [5, 6, 7, 8, 9, 31, 32, 33, 34, 35, 36] own h (own1 own b9 7) h10 := Fm.new x9 hb9
  have Tt := Tt.nw (j := 7) x9 hb9
  have k4 := k4.nw (j := 7) x9 hb9
  have k5 := k5.nw (j := 7) x9 hb9
  have k6 := k6.nw (j := 7) x9 hb9
  have k7 := k7 own
  generalize own1 own b9 7 = ow at *
  refine mk_ints 8 (by omega) (by omega) ?_
  intro b11 h12 hb11 x11 k8
  have Ft := Ft.trans (Fm.new (i := 8) x11 hb11)
  have Tt := Tt.nw (j := 8) x11 hb11
  have k4 := k4.nw (j := 8) x11 hb11
  have k5 := k5.nw (j := 8) x11 hb11
  have k6 := k6.nw (j := 8) x11 hb11
  have k7 := k7.nw (j := 8) x11 hb11
  have k8 := k8 ow
  generalize own1 ow b11 8 = ow at *
  clear hb9 x9 hb11 x11
  simp only [Int.toNat_natCast]
  -- none is reached
  let I0 : (Int × Unit) → H → Nat → Prop := fun s g z => ∃ j : Nat, s.1 = j ∧ j ≤ left + wd ∧ z = left + wd - j ∧ Fm [7, 8] ow h12 ow g ∧ S1 ow g 7 (.slice (some (bk b9)) (left + wd) (left + wd)) (ints (left + wd) fun c => if c < j then farI else 0) ∧
    S1 ow g 8 (.slice (some (bk b11)) (left + wd) (left + wd)) (ints (left + wd) fun c => if c < j then -1 else 0)
  refine ⟨fun p q => ∃ k, I0 p q k, rk I0, rk_wf I0, ⟨_, 0, rfl, by omega, rfl, Fm.refl, k7.cg fun c _ => (if_neg (by omega)).symm, k8.cg fun c _ => (if_neg (by omega)).symm⟩, ?_⟩
  clear k7 k8
  intro s g hI
  obtain ⟨j, e1, hj, hz, Fq, k7, k8⟩ := mu_spec hI
  generalize hkk : mu I0 ((s, ()), g) = km at *
  change s = (j : Int) at e1
  subst e1
  have hlt : j < left + wd → left + wd - (j + 1) < mu I0 (((j : Int), ()), g) := fun h => by rw [hkk, hz]; exact sub_dec h
  clear hI
  refine ifP_of (fun h1 => ?_) (fun h1 => ?_)
  · have hjN : j < left + wd := by have := of_decide_eq_true h1; omega
    refine k7.setI hjN fun g1 F1 k7 => ?_
    refine (k8.fm F1 (by simp <;> omega)).setI hjN fun g2 F2 k8 => ?_
    have k7 := k7.fm F2 (by simp <;> omega)
    rw [i64_inc (by omega)]
    refine mu_next (I := I0) (k := left + wd - (j + 1)) ⟨j + 1, rfl, hjN, rfl, Fq.trans ((F1.mono (by simp)).trans (F2.mono (by simp))), k7.cg fun c _ => upd_to (g := fun _ => farI) (f := fun _ => 0) rfl c, k8.cg fun c _ => upd_to (g := fun _ => -1) (f := fun _ => 0) rfl c⟩ (hlt hjN)
  have hjN : j = left + wd := by have := of_decide_eq_false h1; omega
  have k7 : S1 ow g 7 (.slice (some (bk b9)) (left + wd) (left + wd)) (ints (left + wd) fun _ => farI) := k7.cg fun c hc => if_pos (by omega)
  have k8 : S1 ow g 8 (.slice (some (bk b11)) (left + wd) (left + wd)) (ints (left + wd) fun _ => -1) := k8.cg fun c hc => if_pos (by omega)
  have Ft := Ft.trans (Fq.mono (by simp))
  have Tt := Tt.fm Fq (by simp <;> omega)
  have k4 := k4.fm Fq (by simp <;> omega)
  have k5 := k5.fm Fq (by simp <;> omega)
  have k6 := k6.fm Fq (by simp <;> omega)
  clear hlt hkk hz h1 hj Fq hjN
  obtain ⟨vb, vc, vals, k1, _⟩ := Tt.q
  refine ptrP_mk (k4.rV rfl (ptrP_mk (k1.rI rfl ?_)))
  clear k1
  refine (qnewB_T ow hl).mono ?_
  rintro _ g1 ⟨bq, ow1, rfl, F1, Q⟩
  have Ft := Ft.trans (F1.mono (by simp))
  have Tt := Tt.fm F1 (by simp <;> omega)
  have k4 := k4.fm F1 (by simp <;> omega)
  have k5 := k5.fm F1 (by simp <;> omega)
  have k6 := k6.fm F1 (by simp <;> omega)
  have k7 := k7.fm F1 (by simp <;> omega)
  have k8 := k8.fm F1 (by simp <;> omega)
  clear F1
  refine rt_ret ⟨_, _, rfl, k7.setI (by omega) fun g2 F2 k7 => ?_⟩
  have k7 : S1 ow1 g2 7 (.slice (some (bk b9)) (left + wd) (left + wd)) (ints (left + wd) fun v => if v = k then 0 else farI) := k7
  have Ft := Ft.trans (F2.mono (by simp))
  have Tt := Tt.fm F2 (by simp <;> omega)
  have k4 := k4.fm F2 (by simp <;> omega)
  have k5 := k5.fm F2 (by simp <;> omega)
  have k6 := k6.fm F2 (by simp <;> omega)
  have k8 := k8.fm F2 (by simp <;> omega)
  have Q := Q.fm F2 (by simp)
  clear F2
  refine ptrP_mk (k4.rV rfl (k5.rdI (by omega) ?_))
  let Eb : Nat → Nat → Prop := fun v c => 0 < bs v c
  -- what the search comes to
  refine ⟨fun s g => ∃ (ow : Own) (dist via : Nat → Int) (rk_ : Nat → Nat) (sn : List Nat) (a t en : Nat), s.1 = (en : Int) ∧ Fm [5, 6, 7, 8, 9, 31, 32, 33, 34, 35, 36] own h ow g ∧ Tb ow g bt left wd m es bs ∧
    B1 ow g 4 bx [.pointer (some (bk bt)), vp, vy] ∧ S1 ow g 5 vp (ints (left + wd) pot) ∧ S1 ow g 6 vy (ints (left + wd) by_) ∧ S1 ow g 7 (.slice (some (bk b9)) (left + wd) (left + wd)) (ints (left + wd) dist) ∧
    S1 ow g 8 (.slice (some (bk b11)) (left + wd) (left + wd)) (ints (left + wd) via) ∧ S1 ow g 9 s.2.2.1 (natV sn) ∧ DsP left wd k (wgE es bs) Eb pot by_ dist via rk_ sn a wd t ∧
    (∀ v, v ∈ sn → v < left → s.2.1 ≤ dist v + pot v) ∧ dist a ≤ s.2.1 ∧ s.2.1 ≤ 1048576 ∧ (∀ c, c < wd → left + c ∉ sn → s.2.1 ≤ dist (left + c)) ∧
    (en ∈ sn ∧ en < left ∧ s.2.1 = dist en + pot en ∨ ∃ c, c < wd ∧ en = left + c ∧ by_ en = -1 ∧ en ∉ sn ∧ dist en = s.2.1), ?_, ?_⟩
  · -- the search
    let I : (Int × Int × Int × Value × Unit) → H → Nat → Prop := fun s g z => ∃ (ow : Own) (dist via key : Nat → Int) (held : Nat → Bool) (rk_ : Nat → Nat) (sn : List Nat) (a t en : Nat), s.1 = (en : Int) ∧ s.2.2.1 = (a : Int) ∧ z = left + wd + 2 - (sn ++ [a]).length ∧
      Fm [5, 6, 7, 8, 9, 31, 32, 33, 34, 35, 36] own h ow g ∧ Tb ow g bt left wd m es bs ∧ B1 ow g 4 bx [.pointer (some (bk bt)), vp, vy] ∧ S1 ow g 5 vp (ints (left + wd) pot) ∧ S1 ow g 6 vy (ints (left + wd) by_) ∧
      S1 ow g 7 (.slice (some (bk b9)) (left + wd) (left + wd)) (ints (left + wd) dist) ∧ S1 ow g 8 (.slice (some (bk b11)) (left + wd) (left + wd)) (ints (left + wd) via) ∧ S1 ow g 9 s.2.2.2.1 (natV sn) ∧ BQ ow g bq (left + wd) key held ∧
      DsP left wd k (wgE es bs) Eb pot by_ dist via rk_ (sn ++ [a]) a 0 t ∧ QsP left wd dist key held (sn ++ [a]) ∧ (∀ v, v ∈ sn → v < left → s.2.1 ≤ dist v + pot v) ∧ dist a ≤ s.2.1 ∧ s.2.1 ≤ 1048576 ∧ en ∈ sn ++ [a] ∧ en < left ∧ s.2.1 = dist en + pot en
    refine ⟨fun p q => ∃ k, I p q k, rk I, rk_wf I, ⟨_, ow1, _, _, _, _, fun _ => 0, [], k, 0, k, rfl, rfl, rfl, Ft, Tt, k4, k5, k6, k7, k8, S1.nil, Q, DsP.start (rk_ := fun _ => 0) hk, QsP.start hk, fun v hv => (by cases hv), ?_, plk, by simp, hk, ?_⟩, ?_⟩
    · show (if k = k then (0 : Int) else farI) ≤ pot k
      rw [if_pos rfl]; exact (plo k (by omega)).1
    · show pot k = (if k = k then (0 : Int) else farI) + pot k
      rw [if_pos rfl]; omega
    clear Ft Tt k4 k5 k6 k7 k8 Q
    intro en0 best0 at0 seen0 g hI
    obtain ⟨ow, dist, via, key, held, rk_, sn, a, t, en, e1, e2, hz, Ft, Tt, k4, k5, k6, k7, k8, k9, Q, D, Qs, hb, ha, hbd, en1, en2, en3⟩ := mu_spec hI
    generalize hkk : mu I ((en0, best0, at0, seen0, ()), g) = km at *
    change en0 = (en : Int) at e1
    change at0 = (a : Int) at e2
    change S1 ow g 9 seen0 _ at k9
    change ∀ v, v ∈ sn → v < left → best0 ≤ dist v + pot v at hb
    change dist a ≤ best0 at ha
    change best0 ≤ 1048576 at hbd
    change best0 = dist en + pot en at en3
    subst e1 e2
    clear hI
    have slen : (sn ++ [a]).length ≤ left + wd := short D.nd D.lt
    have slen' : sn.length ≤ 1024 := by rw [List.length_append] at slen; omega
    have al := D.ak.2
    have pa := plo a (by omega)
    have da0 := D.mo a D.ak.1
    refine k9.push (l := 1) rfl (by simp [Value.oneCell']) (by simp) (by omega) (by rw [natV_length]; show _ + 1 < 1000000; omega) ?_
    intro bn1 gm seen1 ow1 g1 hbn1 xm1 F1 k9
    have k9 : S1 ow1 g1 9 seen1 (natV (sn ++ [a])) := by simpa [natV] using k9
    have Ft := Ft.trans (F1.mono (by simp))
    have Tt := Tt.fm F1 (by simp <;> omega)
    have k4 := k4.fm F1 (by simp <;> omega)
    have k5 := k5.fm F1 (by simp <;> omega)
    have k6 := k6.fm F1 (by simp <;> omega)
    have k7 := k7.fm F1 (by simp <;> omega)
    have k8 := k8.fm F1 (by simp <;> omega)
    have Q := Q.fm F1 (by simp)
    clear F1 hbn1 xm1
    refine ⟨fun s g2 => g2 = g1 ∧ ∃ en : Nat, s.1 = (en : Int) ∧ (∀ v, v ∈ sn ++ [a] → v < left → s.2.1 ≤ dist v + pot v) ∧ dist a ≤ s.2.1 ∧ s.2.1 ≤ 1048576 ∧ en ∈ sn ++ [a] ∧ en < left ∧ s.2.1 = dist en + pot en, ?_, ?_⟩
    · refine k7.at (ints_get (by omega)) fun a55 e55 => ptrP_mk ⟨_, e55, k4.rV rfl (k5.rdI (by omega) ?_)⟩
      have ew : IntKind.i64.wrap (dist a + pot a) = dist a + pot a := w64_in (by omega) (by omega)
      rw [ew]
      refine ifP_of (fun h1 => ?_) (fun h1 => ?_)
      · have h1 := of_decide_eq_true h1
        refine ⟨rfl, a, rfl, fun v hv hl => ?_, ?_, ?_, by simp, al, rfl⟩
        · rcases List.mem_append.1 hv with hv | hv
          · have := hb v hv hl
            show dist a + pot a ≤ _
            omega
          · rw [List.mem_singleton] at hv; subst hv; exact Int.le_refl _
        · show dist a ≤ dist a + pot a
          omega
        · show dist a + pot a ≤ _
          omega
      · have h1 := of_decide_eq_false h1
        refine ⟨rfl, en, rfl, fun v hv hl => ?_, ha, hbd, en1, en2, en3⟩
        rcases List.mem_append.1 hv with hv | hv
        · exact hb v hv hl
        · rw [List.mem_singleton] at hv; subst hv
          show best0 ≤ _
          omega
    clear hb ha hbd en1 en2 en3
    rintro enI best1 gA ⟨hgg, en, e1, hb, ha, hbd, en1, en2, en3⟩
    subst hgg
    change enI = (en : Int) at e1
    change ∀ v, v ∈ sn ++ [a] → v < left → best1 ≤ dist v + pot v at hb
    change dist a ≤ best1 at ha
    change best1 ≤ 1048576 at hbd
    change best1 = dist en + pot en at en3
    subst e1
    obtain ⟨vb, vc, vals, k1, k2, k3, kv⟩ := Tt.q
    refine ptrP_mk (k4.rV rfl (ptrP_mk (k1.rI rfl ?_)))
    generalize hsn1 : sn ++ [a] = sn1 at *
    -- the edges of a
    let I6 : (Int × Unit) → H → Nat → Prop := fun s g z => ∃ (jj : Nat) (ow : Own) (dist1 via key : Nat → Int) (held : Nat → Bool), s.1 = ((left + jj : Nat) : Int) ∧ jj ≤ wd ∧ z = wd - jj ∧ Fm [7, 8, 31, 32, 33, 34, 35, 36] ow1 gA ow g ∧
      S1 ow g 7 (.slice (some (bk b9)) (left + wd) (left + wd)) (ints (left + wd) dist1) ∧ S1 ow g 8 (.slice (some (bk b11)) (left + wd) (left + wd)) (ints (left + wd) via) ∧ BQ ow g bq (left + wd) key held ∧
      DsP left wd k (wgE es bs) Eb pot by_ dist1 via rk_ sn1 a jj t ∧ QsP left wd dist1 key held sn1 ∧ ∀ x, x ∈ sn1 → dist1 x = dist x
    refine ⟨fun p q => ∃ k, I6 p q k, rk I6, rk_wf I6, ⟨_, 0, ow1, dist, via, key, held, rfl, by omega, rfl, Fm.refl, k7, k8, Q, D, Qs, fun _ _ => rfl⟩, ?_⟩
    clear k7 k8 Q D Qs
    intro w0 g2 hI
    obtain ⟨jj, ow2, dist1, via1, key1, held1, e1, hj, hz6, Fq, k7, k8, Q, D, Qs, dsn⟩ := mu_spec hI
    generalize hkk6 : mu I6 ((w0, ()), g2) = km6 at *
    change w0 = ((left + jj : Nat) : Int) at e1
    subst e1
    have hlt : jj < wd → wd - (jj + 1) < mu I6 ((((left + jj : Nat) : Int), ()), g2) := fun h => by rw [hkk6, hz6]; exact sub_dec h
    clear hI
    have Tq := Tt.fm Fq (by simp)
    have k4q := k4.fm Fq (by simp <;> omega)
    have k5q := k5.fm Fq (by simp <;> omega)
    have k6q := k6.fm Fq (by simp <;> omega)
    have k1q := k1.fm Fq (by simp <;> omega)
    have k2q := k2.fm Fq (by simp <;> omega)
    refine ptrP_mk (k4q.rV rfl (ptrP_mk (k1q.rI rfl (ifP_of (fun h1 => ?_) (fun h1 => ?_)))))
    · have hjw : jj < wd := by have := of_decide_eq_true h1; omega
      have pw := plo (left + jj) (by omega)
      have wk := hw a jj
      have kva := (kv a al).fm Fq (by simp; omega)
      have da1 := dsn a D.ak.1
      refine k7.at (ints_get (by omega)) fun a73 e73 => ptrP_mk (ptrP_mk (ptrP_mk ⟨_, e73, k4q.rV rfl (k5q.at (ints_get (by omega)) fun a79 e79 => ⟨_, e79, k4q.rV rfl (k5q.at (ints_get (by omega)) fun a82 e82 => ⟨_, e82, k4q.rV rfl ?_⟩)⟩)⟩))
      refine (weight_T Tq B al hjw hl hm (by omega)).mono ?_
      rintro _ _ ⟨rfl, rfl⟩
      have ed : IntKind.i64.wrap ((IntKind.i64.wrap ((IntKind.i64.wrap (dist1 a + pot a)) + pot (left + jj))) - wgE es bs a jj) = dist1 a + pot a + pot (left + jj) - wgE es bs a jj := by
        rw [show IntKind.i64.wrap (dist1 a + pot a) = dist1 a + pot a from w64_in (by omega) (by omega), show IntKind.i64.wrap (dist1 a + pot a + pot (left + jj)) = dist1 a + pot a + pot (left + jj) from w64_in (by omega) (by omega)]
        exact w64_in (by omega) (by omega)
      refine rt_ret ⟨_, rfl, fun _ _ => rfl, fun _ _ => rfl, fun _ _ => rfl, fun _ _ => rfl, fun _ _ => rfl, ?_⟩
      simp only [ed]
      have ew : IntKind.i64.wrap (((left + jj : Nat) : Int) - left) = (jj : Int) := by rw [show ((left + jj : Nat) : Int) - left = jj by omega]; exact w64_in (by omega) (by omega)
      have ei : IntKind.i64.wrap (((left + jj : Nat) : Int) + 1) = ((left + (jj + 1) : Nat) : Int) := i64_inc (by omega)
      refine ptrP_mk (ptrP_mk (k4q.rV rfl (ptrP_mk (k1q.rV rfl (k2q.rdV al (k4q.rV rfl (ptrP_mk (k1q.rI rfl ?_))))))))
      rw [ew, ei]
      have fe := G.fe a jj al hjw
      have skip : (¬ Eb a jj ∨ dist1 (left + jj) ≤ dist1 a + pot a + pot (left + jj) - wgE es bs a jj) → (∃ k, I6 (((left + (jj + 1) : Nat) : Int), ()) g2 k) ∧ rk I6 ((((left + (jj + 1) : Nat) : Int), ()), g2) ((((left + jj : Nat) : Int), ()), g2) := fun hno =>
        mu_next (I := I6) (k := wd - (jj + 1)) ⟨jj + 1, ow2, dist1, via1, key1, held1, rfl, hjw, rfl, Fq, k7, k8, Q, D.no hno, Qs, dsn⟩ (hlt hjw)
      refine kva.rdI hjw (ifP_of (fun h2 => ?_) (fun h2 => ?_))
      · refine skip (.inl fun k => ?_)
        have h2 := of_decide_eq_true h2
        have k : 0 < bs a jj := k
        omega
      have hEa : Eb a jj := by
        have h2 := of_decide_eq_false h2
        show 0 < bs a jj
        omega
      refine k7.rdI (by omega) (ifP_of (fun h3 => skip (.inr (of_decide_eq_true h3))) (fun h3 => ?_))
      have h3 : dist1 a + pot a + pot (left + jj) - wgE es bs a jj < dist1 (left + jj) := by have := of_decide_eq_false h3; omega
      have D2 := D.yes hjw fe hEa h3
      have ns := D.fresh fe h3
      have hfr := (D.fr jj hjw ns).2
      have dsn2 : ∀ x, x ∈ sn1 → upd dist1 (left + jj) (dist1 a + pot a + pot (left + jj) - wgE es bs a jj) x = dist x := fun x hx => by rw [upd_ne (by rintro rfl; exact ns hx)]; exact dsn x hx
      generalize hd : dist1 a + pot a + pot (left + jj) - wgE es bs a jj = d at *
      refine ⟨fun _ g3 => ∃ (ow3 : Own) (key2 : Nat → Int) (held2 : Nat → Bool), Fm [31, 32, 33, 34, 35, 36] ow2 g2 ow3 g3 ∧ BQ ow3 g3 bq (left + wd) key2 held2 ∧ QsP left wd (upd dist1 (left + jj) d) key2 held2 sn1, ?_, ?_⟩
      · refine k7.rdI (by omega) (ifP_of (fun h4 => ?_) (fun h4 => ?_))
        · have h4 : dist1 (left + jj) = farI := by have := of_decide_eq_true h4; omega
          have hh : held1 (left + jj) = false := by
            cases e : held1 (left + jj) with
            | false => rfl
            | true => have := ((Qs.hd jj hjw).1 e).1; omega
          refine (qpushB_T Q (by omega) hh hl).mono ?_
          rintro _ g3 ⟨ow3, rfl, F3, Q3⟩
          exact rt_ret ⟨_, rfl, ow3, _, _, F3, Q3, Qs.yes (by omega) ns⟩
        · have h4 : dist1 (left + jj) ≠ farI := by have := of_decide_eq_false h4; omega
          have hh : held1 (left + jj) = true := (Qs.hd jj hjw).2 ⟨by omega, ns⟩
          refine (qlowerB_T Q (by omega) hh (by rw [Qs.ky jj hjw hh]; exact h3) hl).mono ?_
          rintro _ g3 ⟨rfl, F3, Q3⟩
          exact rt_ret ⟨_, rfl, ow2, _, _, F3, Q3, Qs.yes2 (by omega) ns hh⟩
      rintro g3 ⟨ow3, key2, held2, F3, Q3, Qs3⟩
      have k7 := k7.fm F3 (by simp <;> omega)
      have k8 := k8.fm F3 (by simp <;> omega)
      refine k7.setI (by omega) fun g4 F4 k7 => ?_
      have k8 := k8.fm F4 (by simp <;> omega)
      have Q3 := Q3.fm F4 (by simp)
      refine k8.setI (by omega) fun g5 F5 k8 => ?_
      have k7 := k7.fm F5 (by simp <;> omega)
      have Q3 := Q3.fm F5 (by simp)
      exact mu_next (I := I6) (k := wd - (jj + 1)) ⟨jj + 1, ow3, _, _, key2, held2, rfl, hjw, rfl, Fq.trans ((F3.mono (by simp)).trans ((F4.mono (by simp)).trans (F5.mono (by simp)))), k7, k8, Q3, D2, Qs3, dsn2⟩ (hlt hjw)
    have hjw : jj = wd := by have := of_decide_eq_false h1; omega
    subst hjw
    have Ft := Ft.trans (Fq.mono (by simp))
    have k9 := k9.fm Fq (by simp <;> omega)
    clear hlt hkk6 hz6 h1 hj k1 k2 k3 kv k1q k2q Tt k4 k5 k6 Fq
    have ha1 : dist1 a ≤ best1 := by rw [dsn a D.ak.1]; exact ha
    have hb1 : ∀ v, v ∈ sn1 → v < left → best1 ≤ dist1 v + pot v := fun v hv hl => by rw [dsn v hv]; exact hb v hv hl
    have en4 : best1 = dist1 en + pot en := by rw [dsn en en1]; exact en3
    refine (qpopB_T Q hl).mono ?_
    rintro _ g3 (⟨rfl, hno, rfl⟩ | ⟨w, rfl, hwN, hwh, hmin, F3, Q3⟩)
    · refine rt_ret ⟨_, _, _, rfl, ifP_of (fun _ => ?_) (fun h2 => by simp at h2)⟩
      refine ⟨ow2, dist1, via1, rk_, sn1, a, t, en, rfl, Ft, Tq, k4q, k5q, k6q, k7, k8, k9, D, hb1, ha1, hbd, fun c hc hn => ?_, .inl ⟨en1, en2, en4⟩⟩
      show best1 ≤ dist1 (left + c)
      rcases Int.lt_or_le (dist1 (left + c)) farI with h5 | h5
      · have := (Qs.hd c hc).2 ⟨h5, hn⟩
        rw [hno _ (by omega)] at this; cases this
      · omega
    have Ft := Ft.trans (F3.mono (by simp))
    have Tq := Tq.fm F3 (by simp <;> omega)
    have k4q := k4q.fm F3 (by simp <;> omega)
    have k5q := k5q.fm F3 (by simp <;> omega)
    have k6q := k6q.fm F3 (by simp <;> omega)
    have k7 := k7.fm F3 (by simp <;> omega)
    have k8 := k8.fm F3 (by simp <;> omega)
    have k9 := k9.fm F3 (by simp <;> omega)
    obtain ⟨c, rfl⟩ : ∃ c, w = left + c := ⟨w - left, by
      rcases Nat.lt_or_ge w left with h5 | h5
      · rw [Qs.lf w h5] at hwh; cases hwh
      · omega⟩
    have hc : c < jj := by omega
    obtain ⟨df, dns⟩ := (Qs.hd c hc).1 hwh
    have hkw := Qs.ky c hc hwh
    rw [hkw]
    have hm2 : ∀ c', c' < jj → left + c' ∉ sn1 → dist1 (left + c) ≤ dist1 (left + c') := fun c' hc' hn => by
      rcases Int.lt_or_le (dist1 (left + c')) farI with h5 | h5
      · have hh := (Qs.hd c' hc').2 ⟨h5, hn⟩
        have := hmin _ (by omega) hh
        rw [hkw, Qs.ky c' hc' hh] at this
        exact this
      · omega
    refine rt_ret ⟨_, _, _, rfl, ifP_of (fun h2 => by simp at h2) (fun _ => ifP_of (fun h2 => ?_) (fun h2 => ?_))⟩
    · have h2 := of_decide_eq_true h2
      refine ⟨ow2, dist1, via1, rk_, sn1, a, t, en, rfl, Ft, Tq, k4q, k5q, k6q, k7, k8, k9, D, hb1, ha1, hbd, fun c' hc' hn => ?_, .inl ⟨en1, en2, en4⟩⟩
      have := hm2 c' hc' hn
      show best1 ≤ dist1 (left + c')
      omega
    have h2 : dist1 (left + c) < best1 := by have := of_decide_eq_false h2; omega
    have fra := (D.fr c hc dns).1
    refine ptrP_mk (k4q.rV rfl (k6q.rdI (by omega) (ifP_of (fun h3 => ?_) (fun h3 => ?_))))
    · have h3 := of_decide_eq_true h3
      have hbm : by_ (left + c) = -1 := by
        rcases G.rm c hc (by omega) with e | ⟨v, _, e, _⟩ <;> omega
      refine ⟨ow2, dist1, via1, rk_, sn1, a, t, left + c, rfl, Ft, Tq, k4q, k5q, k6q, k7, k8, k9, D, fun v hv hl => ?_, fra, ?_, hm2, .inr ⟨c, hc, rfl, hbm, dns, rfl⟩⟩
      · have := hb1 v hv hl
        show dist1 (left + c) ≤ _
        omega
      · show dist1 (left + c) ≤ _
        omega
    have h3 := of_decide_eq_false h3
    obtain ⟨v, hv⟩ : ∃ v : Nat, by_ (left + c) = v := ⟨(by_ (left + c)).toNat, by omega⟩
    obtain ⟨hvl, hvn, D3⟩ := D.pop G hc dns hm2 hv (by omega) hk
    have len3 := short D3.nd D3.lt
    have l1 : sn1.length = sn.length + 1 := by rw [← hsn1]; simp
    refine k9.push (l := 1) rfl (by simp [Value.oneCell']) (by simp) (by omega) (by rw [natV_length]; show _ + 1 < 1000000; omega) ?_
    intro bn2 gm2 seen2 ow4 g4 hbn2 xm2 F4 k9
    have k9 : S1 ow4 g4 9 seen2 (natV (sn1 ++ [left + c])) := by simpa [natV] using k9
    have Ft := Ft.trans (F4.mono (by simp))
    have Tq := Tq.fm F4 (by simp <;> omega)
    have k4q := k4q.fm F4 (by simp <;> omega)
    have k5q := k5q.fm F4 (by simp <;> omega)
    have k6q := k6q.fm F4 (by simp <;> omega)
    have k7 := k7.fm F4 (by simp <;> omega)
    have k8 := k8.fm F4 (by simp <;> omega)
    have Q3 := Q3.fm F4 (by simp)
    refine ptrP_mk (k4q.rV rfl (k6q.rdI (by omega) ?_))
    rw [hv]
    refine k7.setI (by omega) fun g5 F5 k7 => ?_
    have Ft := Ft.trans (F5.mono (by simp))
    have Tq := Tq.fm F5 (by simp <;> omega)
    have k4q := k4q.fm F5 (by simp <;> omega)
    have k5q := k5q.fm F5 (by simp <;> omega)
    have k6q := k6q.fm F5 (by simp <;> omega)
    have k8 := k8.fm F5 (by simp <;> omega)
    have k9 := k9.fm F5 (by simp <;> omega)
    have Q3 := Q3.fm F5 (by simp)
    have es : sn1 ++ [left + c] ++ [v] = sn1 ++ [left + c, v] := by simp
    have dn : ∀ x, x ∈ sn1 → upd dist1 v (dist1 (left + c)) x = dist1 x := fun x hx => upd_ne (by rintro rfl; exact hvn hx)
    refine mu_next (I := I) (k := left + jj + 2 - (sn1 ++ [left + c] ++ [v]).length) ⟨ow4, _, via1, _, _, _, sn1 ++ [left + c], v, t + 1, en, rfl, rfl, rfl, Ft, Tq, k4q, k5q, k6q, k7, k8, k9, Q3, by rw [es]; exact D3, by rw [es]; exact Qs.pop hc hvl, fun x hx hl => ?_, ?_, hbd, ?_, en2, ?_⟩ ?_
    · show best1 ≤ _
      rcases List.mem_append.1 hx with hx | hx
      · rw [dn x hx]; exact hb1 x hx hl
      · rw [List.mem_singleton] at hx; omega
    · show upd dist1 v (dist1 (left + c)) v ≤ best1
      rw [upd_at]; omega
    · simp [en1]
    · show best1 = upd dist1 v (dist1 (left + c)) en + pot en
      rw [dn en en1]; exact en4
    · rw [hkk, hz, es]
      rw [List.length_append] at len3 ⊢
      have e3 : [left + c, v].length = 2 := rfl
      rw [e3] at len3 ⊢
      omega
  · -- the potentials
    clear Ft Tt k4 k5 k6 k7 k8 Q
    rintro en0 best seenV g3 ⟨ow, dist, via, rk_, sn, a, t, en, e1, Ft, Tt, k4, k5, k6, k7, k8, k9, D, hb, ha, hbd, hx, hen⟩
    change en0 = (en : Int) at e1
    change S1 ow g3 9 seenV _ at k9
    change ∀ v, v ∈ sn → v < left → best ≤ dist v + pot v at hb
    change dist a ≤ best at ha
    change best ≤ 1048576 at hbd
    change ∀ c, c < wd → left + c ∉ sn → best ≤ dist (left + c) at hx
    change en ∈ sn ∧ en < left ∧ best = dist en + pot en ∨ ∃ c, c < wd ∧ en = left + c ∧ by_ en = -1 ∧ en ∉ sn ∧ dist en = best at hen
    subst e1
    have da0 := D.mo a D.ak.1
    have slen := short D.nd D.lt
    refine k9.len (natV_length _) fun _ _ => ?_
    let I7 : (Int × Unit) → H → Nat → Prop := fun s g z => ∃ j : Nat, s.1 = j ∧ j ≤ sn.length ∧ z = sn.length - j ∧ Fm [5] ow g3 ow g ∧ S1 ow g 5 vp (ints (left + wd) (npT left pot dist best (sn.take j)))
    refine ⟨fun p q => ∃ k, I7 p q k, rk I7, rk_wf I7, ⟨_, 0, rfl, by omega, rfl, Fm.refl, k5.cg fun c _ => (npT_n (by simp)).symm⟩, ?_⟩
    clear k5
    intro s g hI
    obtain ⟨j, e1, hj, hz, Fq, k5⟩ := mu_spec hI
    generalize hkk : mu I7 ((s, ()), g) = km at *
    change s = (j : Int) at e1
    subst e1
    have hlt : j < sn.length → sn.length - (j + 1) < mu I7 (((j : Int), ()), g) := fun h => by rw [hkk, hz]; exact sub_dec h
    clear hI
    refine ifP_of (fun h1 => ?_) (fun h1 => ?_)
    · have hjn : j < sn.length := by have := of_decide_eq_true h1; omega
      have hxm : sn[j] ∈ sn := List.getElem_mem hjn
      have hxl := D.lt _ hxm
      have hmo := D.mo _ hxm
      have hpx := plo _ hxl
      have hst := fun v => npT_take (left := left) (pot := pot) (dist := dist) (best := best) D.nd hjn v
      have hat := npT_at (left := left) (pot := pot) (dist := dist) (best := best) D.nd hjn
      obtain ⟨vb, vc, vals, k1, _⟩ := Tt.q
      have k1q := k1.fm Fq (by simp <;> omega)
      have k4q := k4.fm Fq (by simp <;> omega)
      have k7q := k7.fm Fq (by simp <;> omega)
      generalize hxx : sn[j] = x at *
      refine (k9.fm Fq (by simp <;> omega)).rd (by rw [natV_get hjn, hxx]) ?_
      refine ptrP_mk (k4q.rV rfl (ptrP_mk (k1q.rI rfl (ifP_of (fun h2 => ?_) (fun h2 => ?_)))))
      · have h2 : x < left := by have := of_decide_eq_true h2; omega
        refine ptrP_mk (k7q.at (ints_get hxl) fun a157 e157 => k4q.rV rfl (k5.at (ints_get hxl) fun a159 e159 => ⟨_, e159, _, e157, k5.setI hxl fun g4 F4 k5 => ?_⟩))
        rw [i64_inc (by omega)]
        refine mu_next (I := I7) (k := sn.length - (j + 1)) ⟨j + 1, rfl, hjn, rfl, Fq.trans F4, k5.cg fun v _ => ?_⟩ (hlt hjn)
        rw [hst v, if_pos h2, hat]
        have e1 : IntKind.i64.wrap (best - dist x) = best - dist x := w64_in (by omega) (by omega)
        have e2 : IntKind.i64.wrap (pot x - (best - dist x)) = pot x - (best - dist x) := w64_in (by omega) (by omega)
        rw [e1, e2]
      · have h2 : ¬ x < left := by have := of_decide_eq_false h2; omega
        refine ptrP_mk (k7q.at (ints_get hxl) fun a157 e157 => k4q.rV rfl (k5.at (ints_get hxl) fun a159 e159 => ⟨_, e159, _, e157, k5.setI hxl fun g4 F4 k5 => ?_⟩))
        rw [i64_inc (by omega)]
        refine mu_next (I := I7) (k := sn.length - (j + 1)) ⟨j + 1, rfl, hjn, rfl, Fq.trans F4, k5.cg fun v _ => ?_⟩ (hlt hjn)
        rw [hst v, if_neg h2, hat]
        have e1 : IntKind.i64.wrap (best - dist x) = best - dist x := w64_in (by omega) (by omega)
        have e2 : IntKind.i64.wrap (pot x + (best - dist x)) = pot x + (best - dist x) := w64_in (by omega) (by omega)
        rw [e1, e2]
    have hjn : j = sn.length := by have := of_decide_eq_false h1; omega
    rw [hjn, List.take_length] at k5
    have Ft := Ft.trans (Fq.mono (by simp))
    have Tt := Tt.fm Fq (by simp <;> omega)
    have k4 := k4.fm Fq (by simp <;> omega)
    have k6 := k6.fm Fq (by simp <;> omega)
    have k7 := k7.fm Fq (by simp <;> omega)
    have k8 := k8.fm Fq (by simp <;> omega)
    clear hlt hkk hz h1 hj hjn
    have G2 := D.npot G hE hb ha hx hbd hk
    have Wy := D.way G (w := if en < left then left + wd else en) (best := best) hk hbd ha (by
      split
      · intro hh; have := D.lt _ hh; omega
      · rename_i hl
        rcases hen with ⟨_, e, _⟩ | ⟨c, _, _, _, e, _⟩
        · exact absurd e hl
        · exact e) (fun hlt => by
      split at hlt
      · omega
      · rename_i hl
        rw [if_neg hl]
        rcases hen with ⟨_, e, _⟩ | ⟨c, _, e1, _, _, e2⟩
        · exact absurd e hl
        · exact ⟨by omega, e2⟩) (by split <;> omega)
    refine (tturn_T Tt ⟨k4, k5, k6⟩ k8 G2 Wy hk hbk (en := en) ?_).mono ?_
    · rcases hen with ⟨e1, e2, e3⟩ | ⟨c, e1, e2, e3, e4, e5⟩
      · refine .inl ⟨e2, by rw [npT_l e1 e2]; omega, ?_⟩
        rcases D.sl en e1 e2 with e | ⟨c, c1, c2, c3, c4⟩
        · exact .inl e
        · refine .inr ⟨fun e => ?_, c, c1, c2, .inl c3, ?_⟩
          · rw [e, hbk] at c2; omega
          · try dsimp only
            rw [if_pos e2, if_neg (by omega), if_neg (by omega)]; exact c4
      · refine .inr ⟨c, e1, e2, e3, .inr ?_⟩
        rw [if_neg (by omega)]
    · rintro _ g4 ⟨rfl, by', F4, Rr, G3⟩
      exact rt_ret ⟨rfl, by first | rfl | trivial, ow, _, by', Ft.trans (F4.mono (by simp)), Rr, G3⟩
end

end Go.Proofs.YtdcamadeblojdaaGreat

namespace Go.Proofs.YtdcamadeblojdaaGreat
open Go
open Classical
set_option linter.unusedVariables false
set_option linter.unusedSimpArgs false
set_option maxHeartbeats 2000000

/-- The heaviest of the first weights of a node. -/
def mxW (W : Nat → Nat → Int) (v : Nat) : Nat → Int
  | 0 => 0
  | j + 1 => if mxW W v j < W v j then W v j else mxW W v j
theorem mxW_nn {W : Nat → Nat → Int} {v : Nat} : ∀ {j : Nat}, 0 ≤ mxW W v j
  | 0 => Int.le_refl _
  | j + 1 => by
    have := mxW_nn (W := W) (v := v) (j := j)
    show 0 ≤ if mxW W v j < W v j then W v j else mxW W v j
    split <;> omega
theorem mxW_le {W : Nat → Nat → Int} {v : Nat} {K : Int} (hK : ∀ c, W v c ≤ K) (h0 : 0 ≤ K) : ∀ {j : Nat}, mxW W v j ≤ K
  | 0 => h0
  | j + 1 => by
    have := mxW_le hK h0 (j := j)
    have := hK j
    show (if mxW W v j < W v j then W v j else mxW W v j) ≤ K
    split <;> omega
theorem mxW_ge {W : Nat → Nat → Int} {v c : Nat} : ∀ {j : Nat}, c < j → W v c ≤ mxW W v j
  | 0, h => by omega
  | j + 1, h => by
    show W v c ≤ if mxW W v j < W v j then W v j else mxW W v j
    by_cases e : c = j
    · subst e; split <;> omega
    · have := mxW_ge (W := W) (v := v) (j := j) (c := c) (by omega)
      split <;> omega
theorem TrP.start {left wd : Nat} {W : Nat → Nat → Int} {E : Nat → Nat → Prop} (hw : ∀ v c, 0 ≤ W v c ∧ W v c ≤ 1048576) :
    TrP left wd 0 0 (left + wd) W E (fun v => if v < left then mxW W v wd else 0) (fun _ => -1) := by
  have mle := fun v => mxW_le (W := W) (v := v) (K := 1048576) (fun c => (hw v c).2) (by omega) (j := wd)
  have mnn := fun v => mxW_nn (W := W) (v := v) (j := wd)
  refine ⟨fun v hv => ?_, fun v hv => ?_, fun v c hv hc => ?_, fun v hv => .inl rfl, fun c hc _ => .inl rfl, fun v hv h => by omega, fun v hv _ => rfl, fun c hc _ _ => ?_⟩
  · have := mle v
    have := mnn v
    (try dsimp only)
    split <;> omega
  · have := mle v
    (try dsimp only)
    split <;> omega
  · (try dsimp only)
    rw [if_pos hv, if_neg (by omega)]
    have := mxW_ge (W := W) (v := v) hc
    omega
  · (try dsimp only)
    rw [if_neg (by omega)]
section
variable {own own' : Own} {h h' : H} {bt left wd m : Nat} {es : Nat → Ed} {bs : Nat → Nat → Nat}
theorem byTrees_T (Tt : Tb own h bt left wd m es bs) (B : BsP left wd m es bs) (hs : ∀ i, i < m → lfE es i < left ∧ left ≤ rtE es i ∧ rtE es i < left + wd)
    (hl : left + wd ≤ 1024) (hm : m ≤ 4096) (hw : ∀ v c, 0 ≤ wgE es bs v c ∧ wgE es bs v c ≤ 1048576) :
    T Tryz.prog F.assign_table_byTrees [.pointer (some (bk bt))] h (ByA own h left wd m es) := by
  refine E_assign_table_byTrees ?_
  unfold B_assign_table_byTrees
  obtain ⟨vb, vc, vals, k1, _⟩ := Tt.q
  refine ptrP_mk (ptrP_mk (k1.rI rfl (k1.rI rfl ?_)))
  clear k1
  refine mk_ints 5 (by omega) (by omega) ?_
  intro b5 h6 hb5 x5 k5
  have Ft : Fm [4, 5, 6, 7, 8, 9, 10, 11, 12, 31, 32, 33, 34, 35, 36] own h (own1 own b5 5) h6 := Fm.new x5 hb5
  have Tt := Tt.nw (j := 5) x5 hb5
  have k5 := k5 own
  generalize own1 own b5 5 = ow at *
  refine mk_ints 6 (by omega) (by omega) ?_
  intro b7 h8 hb7 x7 k6
  have Ft := Ft.trans (Fm.new (i := 6) x7 hb7)
  have Tt := Tt.nw (j := 6) x7 hb7
  have k5 := k5.nw (j := 6) x7 hb7
  have k6 := k6 ow
  generalize own1 ow b7 6 = ow at *
  simp only [Int.toNat_natCast]
  refine oneP_ptr (new_bl ?_)
  intro b9 h10 hb9 x9 B9
  have Ft := Ft.trans (Fm.new (i := 4) x9 hb9)
  have k4 : B1 (own1 ow b9 4) h10 4 b9 _ := B1.new B9
  have Tt := Tt.nw (j := 4) x9 hb9
  have k5 := k5.nw (j := 4) x9 hb9
  have k6 := k6.nw (j := 4) x9 hb9
  generalize own1 ow b9 4 = ow at *
  clear hb5 x5 hb7 x7 hb9 x9 B9
  refine k4.rV rfl (slcP_mk ?_)
  let W := wgE es bs
  -- the potentials at first
  let I0 : (Int × Unit) → H → Nat → Prop := fun s g z => ∃ j : Nat, s.1 = j ∧ j ≤ left + wd ∧ z = left + wd - j ∧ Fm [5, 6] ow h10 ow g ∧ S1 ow g 5 (.slice (some (bk b5)) (left + wd) (left + wd)) (ints (left + wd) fun v => if v < j then (if v < left then mxW W v wd else 0) else 0) ∧
    S1 ow g 6 (.slice (some (bk b7)) (left + wd) (left + wd)) (ints (left + wd) fun c => if c < j then -1 else 0)
  refine ⟨fun p q => ∃ k, I0 p q k, rk I0, rk_wf I0, ⟨_, 0, rfl, by omega, rfl, Fm.refl, k5.cg fun c _ => (if_neg (by omega)).symm, k6.cg fun c _ => (if_neg (by omega)).symm⟩, ?_⟩
  clear k5 k6
  intro s g hI
  obtain ⟨j, e1, hj, hz, Fq, k5, k6⟩ := mu_spec hI
  generalize hkk : mu I0 ((s, ()), g) = km at *
  change s = (j : Int) at e1
  subst e1
  have hlt : j < left + wd → left + wd - (j + 1) < mu I0 (((j : Int), ()), g) := fun h => by rw [hkk, hz]; exact sub_dec h
  clear hI
  refine ifP_of (fun h1 => ?_) (fun h1 => ?_)
  · have hjN : j < left + wd := by have := of_decide_eq_true h1; omega
    refine (k4.fm Fq (by simp <;> omega)).rV rfl (k6.setI hjN fun g1 F1 k6 => ?_)
    have k5 := k5.fm F1 (by simp <;> omega)
    have Fq := Fq.trans (F1.mono (by simp))
    clear F1
    have k6 : S1 ow g1 6 (.slice (some (bk b7)) (left + wd) (left + wd)) (ints (left + wd) fun c => if c < j + 1 then -1 else 0) := k6.cg fun c _ => upd_to (g := fun _ => -1) (f := fun _ => 0) rfl c
    obtain ⟨vb, vc, vals, k1, _⟩ := Tt.q
    refine ptrP_mk ((k1.fm Fq (by simp <;> omega)).rI rfl ?_)
    let I2 : (Int × Unit) → H → Nat → Prop := fun s g2 z => ∃ jj : Nat, s.1 = ((left + jj : Nat) : Int) ∧ jj ≤ wd ∧ z = wd - jj ∧ (j < left ∨ jj = 0) ∧ Fm [5] ow g1 ow g2 ∧
      S1 ow g2 5 (.slice (some (bk b5)) (left + wd) (left + wd)) (ints (left + wd) (upd (fun v => if v < j then (if v < left then mxW W v wd else 0) else 0) j (mxW W j jj)))
    refine ⟨fun p q => ∃ k, I2 p q k, rk I2, rk_wf I2, ⟨_, 0, rfl, by omega, rfl, .inr rfl, Fm.refl, k5.cg fun v _ => ?_⟩, ?_⟩
    · by_cases e : v = j
      · subst e; rw [upd_at, if_neg (by omega)]; rfl
      · rw [upd_ne e]
    clear k5
    intro w0 g2 hI
    obtain ⟨jj, e1, hjj, hz2, hor, Fq2, k5⟩ := mu_spec hI
    generalize hkk2 : mu I2 ((w0, ()), g2) = km2 at *
    change w0 = ((left + jj : Nat) : Int) at e1
    subst e1
    have hlt2 : jj < wd → wd - (jj + 1) < mu I2 ((((left + jj : Nat) : Int), ()), g2) := fun h => by rw [hkk2, hz2]; exact sub_dec h
    clear hI
    have FF := Fq.trans (Fq2.mono (by simp))
    have k1q := k1.fm FF (by simp <;> omega)
    have k4q := k4.fm FF (by simp <;> omega)
    have Tq := Tt.fm FF (by simp)
    have out : ¬ (j < left ∧ jj < wd) → (∃ k, I0 (((j + 1 : Nat) : Int), ()) g2 k) ∧ rk I0 ((((j + 1 : Nat) : Int), ()), g2) (((j : Int), ()), g) := fun hno =>
      mu_next (I := I0) (k := left + wd - (j + 1)) ⟨j + 1, rfl, hjN, rfl, FF, k5.cg fun v _ => by
        by_cases e : v = j
        · subst e
          rw [upd_at, if_pos (by omega)]
          by_cases hvl : v < left
          · rw [if_pos hvl, show jj = wd by omega]
          · rw [if_neg hvl, show jj = 0 by omega]; rfl
        · rw [upd_ne e]
          by_cases hv : v < j
          · rw [if_pos hv, if_pos (show v < j + 1 by omega)]
          · rw [if_neg hv, if_neg (show ¬ v < j + 1 by omega)], k6.fm Fq2 (by simp <;> omega)⟩ (hlt hjN)
    have ej : IntKind.i64.wrap ((j : Int) + 1) = ((j + 1 : Nat) : Int) := i64_inc (by omega)
    rw [ej]
    refine ptrP_mk (k1q.rI rfl (ifP_of (fun h2 => ?_) (fun h2 => out fun k => by have := of_decide_eq_false h2; omega)))
    have hjl : j < left := by have := of_decide_eq_true h2; omega
    refine ptrP_mk (k1q.rI rfl (ifP_of (fun h3 => ?_) (fun h3 => out fun k => by have := of_decide_eq_false h3; omega)))
    have hjw : jj < wd := by have := of_decide_eq_true h3; omega
    refine k4q.rV rfl (k4q.rV rfl (k5.at (ints_get hjN) fun a34 e34 => ⟨_, e34, ?_⟩))
    refine (weight_T Tq B hjl hjw hl hm (by omega)).mono ?_
    rintro _ _ ⟨rfl, rfl⟩
    refine rt_ret ⟨_, rfl, fun _ _ => rfl, fun _ _ => rfl, fun _ _ => rfl, k5.setI hjN fun g3 F3 k5 => ?_⟩
    have ei : IntKind.i64.wrap (((left + jj : Nat) : Int) + 1) = ((left + (jj + 1) : Nat) : Int) := i64_inc (by omega)
    rw [ei]
    refine mu_next (I := I2) (k := wd - (jj + 1)) ⟨jj + 1, rfl, hjw, rfl, .inl hjl, Fq2.trans F3, k5.cg fun v _ => ?_⟩ (hlt2 hjw)
    rw [upd_upd, upd_at]
    rfl
  have hjN : j = left + wd := by have := of_decide_eq_false h1; omega
  have k5 : S1 ow g 5 (.slice (some (bk b5)) (left + wd) (left + wd)) (ints (left + wd) fun v => if v < left then mxW W v wd else 0) := k5.cg fun c hc => if_pos (by omega)
  have k6 : S1 ow g 6 (.slice (some (bk b7)) (left + wd) (left + wd)) (ints (left + wd) fun _ => -1) := k6.cg fun c hc => if_pos (by omega)
  have Ft := Ft.trans (Fq.mono (by simp))
  have Tt := Tt.fm Fq (by simp <;> omega)
  have k4 := k4.fm Fq (by simp <;> omega)
  clear hlt hkk hz h1 hj Fq hjN
  have G0 : TrP left wd 0 0 (left + wd) W (fun v c => 0 < bs v c) _ _ := TrP.start hw
  obtain ⟨vb, vc, vals, k1, _⟩ := Tt.q
  refine ptrP_mk (k1.rI rfl ?_)
  clear k1
  -- the nodes of the left side
  let I1 : (Int × Unit) → H → Nat → Prop := fun s g z => ∃ (j : Nat) (ow : Own) (pot by_ : Nat → Int), s.1 = j ∧ j ≤ left ∧ z = left - j ∧ Fm [4, 5, 6, 7, 8, 9, 10, 11, 12, 31, 32, 33, 34, 35, 36] own h ow g ∧ Tb ow g bt left wd m es bs ∧
    Rtr ow g b9 bt left wd (.slice (some (bk b5)) (left + wd) (left + wd)) (.slice (some (bk b7)) (left + wd) (left + wd)) pot by_ ∧ TrP left wd j j (left + wd) W (fun v c => 0 < bs v c) pot by_
  refine ⟨fun p q => ∃ k, I1 p q k, rk I1, rk_wf I1, ⟨_, 0, ow, _, _, rfl, by omega, rfl, Ft, Tt, ⟨k4, k5, k6⟩, G0⟩, ?_⟩
  clear Ft Tt k4 k5 k6 G0
  intro s g hI
  obtain ⟨j, ow, pot, by_, e1, hj, hz, Ft, Tt, Rr, G⟩ := mu_spec hI
  generalize hkk : mu I1 ((s, ()), g) = km at *
  change s = (j : Int) at e1
  subst e1
  have hlt : j < left → left - (j + 1) < mu I1 (((j : Int), ()), g) := fun h => by rw [hkk, hz]; exact sub_dec h
  clear hI
  refine ifP_of (fun h1 => ?_) (fun h1 => ?_)
  · have hjl : j < left := by have := of_decide_eq_true h1; omega
    refine (tgrow_T Tt B Rr G hjl hl hm hw).mono ?_
    rintro _ g1 ⟨rfl, ow', pot', by', F1, Rr, G⟩
    rw [i64_inc (by omega)]
    exact rt_ret ⟨rfl, mu_next (I := I1) (k := left - (j + 1)) ⟨j + 1, ow', pot', by', rfl, hjl, rfl, Ft.trans (F1.mono (by simp)), Tt.fm F1 (by simp), Rr, G⟩ (hlt hjl)⟩
  have hjl : j = left := by have := of_decide_eq_false h1; omega
  rw [hjl] at G
  clear hlt hkk hz h1 hj hjl
  obtain ⟨k4, k5, k6⟩ := Rr
  have res := G.res hl B hs
  obtain ⟨vb, vc, vals, k1, _⟩ := Tt.q
  refine ptrP_mk (k4.rV rfl (k1.rI rfl (slcP_mk ⟨by omega, by omega, by omega, by omega, ?_⟩)))
  clear k1
  rw [sliceV1_n]
  have kr := k6.takeN (show left ≤ left + wd by omega)
  refine kr.len (ints_length _ _) fun _ _ => ?_
  let I2 : (Value × Int × Unit) → H → Nat → Prop := fun s g2 z => ∃ (j : Nat) (ow2 : Own), s.2.1 = j ∧ j ≤ left ∧ z = left - j ∧ Fm [12] ow g ow2 g2 ∧ S1 ow2 g2 12 s.1 (natV (mlT left bs by_ j))
  refine ⟨fun p q => ∃ k, I2 p q k, rk I2, rk_wf I2, ⟨_, 0, ow, rfl, by omega, rfl, Fm.refl, S1.nil⟩, ?_⟩
  intro mv s g2 hI
  obtain ⟨j, ow2, e1, hj, hz, Fq, k12⟩ := mu_spec hI
  generalize hkk : mu I2 ((mv, s, ()), g2) = km at *
  change s = (j : Int) at e1
  change S1 ow2 g2 12 mv _ at k12
  subst e1
  have hlt : j < left → left - (j + 1) < mu I2 ((mv, (j : Int), ()), g2) := fun h => by rw [hkk, hz]; exact sub_dec h
  clear hI
  have Tq := Tt.fm Fq (by simp)
  have k4 := k4.fm Fq (by simp <;> omega)
  have k5 := k5.fm Fq (by simp <;> omega)
  have k6 := k6.fm Fq (by simp <;> omega)
  refine ifP_of (fun h1 => ?_) (fun h1 => ?_)
  · have hjl : j < left := by have := of_decide_eq_true h1; omega
    rw [i64_inc (by omega)]
    refine (kr.fm Fq (by simp <;> omega)).rdI hjl (ifP_of (fun h2 => ?_) (fun h2 => ?_))
    · have h2 := of_decide_eq_true h2
      obtain ⟨c, c1, c2, c3, c4, c5, _⟩ := G.col hjl h2
      try dsimp only at c5
      obtain ⟨vb, vc, vals, k1, k2, k3, kv⟩ := Tq.q
      have bm := B.bm j c hjl c1
      refine ptrP_mk (ptrP_mk (k1.rV rfl (k2.rdV hjl (k1.rI rfl ?_))))
      have e1 : IntKind.i64.wrap (by_ j - left) = (c : Int) := by rw [show by_ j - left = c by omega]; exact w64_in (by omega) (by omega)
      rw [e1]
      refine (kv j hjl).rdI c1 ?_
      have e2 : IntKind.i64.wrap ((bs j c : Int) - 1) = ((bs j c - 1 : Nat) : Int) := by rw [show ((bs j c : Int) - 1) = ((bs j c - 1 : Nat) : Int) by omega]; exact w64_in (by omega) (by omega)
      rw [e2]
      have ml := mlT_len (left := left) (bs := bs) (by_ := by_) (j := j)
      refine k12.push (l := 1) rfl (by simp [Value.oneCell']) (by simp) (by omega) (by rw [natV_length]; show _ + 1 < 1000000; omega) ?_
      intro bx g3 r' ow' g4 hbx x7 F1 k12
      refine mu_next (I := I2) (k := left - (j + 1)) ⟨j + 1, ow', rfl, hjl, rfl, Fq.trans F1, ?_⟩ (hlt hjl)
      show S1 ow' g4 12 r' (natV (mlT left bs by_ j ++ (if 0 ≤ by_ j then [bs j ((by_ j).toNat - left) - 1] else [])))
      rw [if_pos h2, c3]
      simpa [natV] using k12
    · have h2 := of_decide_eq_false h2
      refine mu_next (I := I2) (k := left - (j + 1)) ⟨j + 1, ow2, rfl, hjl, rfl, Fq, ?_⟩ (hlt hjl)
      show S1 ow2 g2 12 mv (natV (mlT left bs by_ j ++ (if 0 ≤ by_ j then [bs j ((by_ j).toNat - left) - 1] else [])))
      rw [if_neg h2, List.append_nil]; exact k12
  have hjl : j = left := by have := of_decide_eq_false h1; omega
  rw [hjl] at k12
  have Ft := Ft.trans (Fq.mono (by simp))
  exact k4.rV rfl ⟨ow2, mv, _, _, pot, rfl, Ft, k12, k5, res⟩
end

end Go.Proofs.YtdcamadeblojdaaGreat

