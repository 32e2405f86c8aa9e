/-
  The plain arithmetic of dates: the days before a year and before a month, and that the seconds of a valid date determine it. No program in sight.
-/
namespace Go.Proofs.YtmmoimemfdbfgaaDoor.Cal

def leaps (n : Int) : Int := n / 4 - n / 100 + n / 400
def bef (y : Int) : Int := 365 * (y - 1950) + leaps (y - 1) - 472
def lp (y : Int) : Int := if y % 4 = 0 ∧ (y % 100 ≠ 0 ∨ y % 400 = 0) then 1 else 0
def tbl (m : Int) : Int := if m = 2 then 28 else if m = 4 ∨ m = 6 ∨ m = 9 ∨ m = 11 then 30 else 31
def mlen (y m : Int) : Int := if m = 2 then 28 + lp y else tbl m
def cum (y m : Int) : Int :=
  if m ≤ 1 then 0 else if m = 2 then 31 else
  (if m = 3 then 59 else if m = 4 then 90 else if m = 5 then 120 else if m = 6 then 151 else if m = 7 then 181 else if m = 8 then 212 else
   if m = 9 then 243 else if m = 10 then 273 else if m = 11 then 304 else if m = 12 then 334 else 365) + lp y

theorem lp_01 (y : Int) : 0 ≤ lp y ∧ lp y ≤ 1 := by unfold lp; split <;> omega

theorem mlen_bd (y m : Int) : 28 ≤ mlen y m ∧ mlen y m ≤ 31 := by
  have := lp_01 y
  unfold mlen tbl; split
  · omega
  · split <;> omega

theorem cum_one (y : Int) : cum y 1 = 0 := by simp [cum]

theorem cum_succ (y m : Int) (h1 : 1 ≤ m) (h2 : m ≤ 12) : cum y (m + 1) = cum y m + mlen y m := by
  have : m = 1 ∨ m = 2 ∨ m = 3 ∨ m = 4 ∨ m = 5 ∨ m = 6 ∨ m = 7 ∨ m = 8 ∨ m = 9 ∨ m = 10 ∨ m = 11 ∨ m = 12 := by omega
  rcases this with rfl | rfl | rfl | rfl | rfl | rfl | rfl | rfl | rfl | rfl | rfl | rfl <;> simp [cum, mlen, tbl] <;> omega

theorem cum_last (y : Int) : cum y 13 = 365 + lp y := by simp [cum]

theorem cum_bd (y m : Int) (h1 : 1 ≤ m) (h2 : m ≤ 13) : 0 ≤ cum y m ∧ cum y m ≤ 365 + lp y := by
  have := lp_01 y
  have : m = 1 ∨ m = 2 ∨ m = 3 ∨ m = 4 ∨ m = 5 ∨ m = 6 ∨ m = 7 ∨ m = 8 ∨ m = 9 ∨ m = 10 ∨ m = 11 ∨ m = 12 ∨ m = 13 := by omega
  rcases this with rfl | rfl | rfl | rfl | rfl | rfl | rfl | rfl | rfl | rfl | rfl | rfl | rfl <;> simp [cum] <;> omega

theorem cum_mono (y a b : Int) (h1 : 1 ≤ a) (h : a ≤ b) (h2 : b ≤ 13) : cum y a ≤ cum y b := by
  have key : ∀ n : Nat, ∀ a : Int, 1 ≤ a → a + n ≤ 13 → cum y a ≤ cum y (a + n) := by
    intro n
    induction n with
    | zero => intro a _ _; simp
    | succ n ih =>
      intro a ha hb
      have h0 := ih (a + 1) (by omega) (by omega)
      have h1 := cum_succ y a ha (by omega)
      have h2 := mlen_bd y a
      have e : a + ((n + 1 : Nat) : Int) = a + 1 + (n : Int) := by omega
      rw [e]; omega
  have := key (b - a).toNat a h1 (by omega)
  have e : a + ((b - a).toNat : Int) = b := by omega
  rw [e] at this; exact this

theorem bef_succ (y : Int) : bef (y + 1) = bef y + 365 + lp y := by
  unfold bef lp leaps
  split <;> omega

theorem bef_mono (a b : Int) (h : a ≤ b) : bef a ≤ bef b := by unfold bef leaps; omega

theorem bef_first : bef 1950 = 0 := by decide
theorem bef_end : bef 10000 = 2940202 := by decide

theorem bef_bd (y : Int) (h1 : 1950 ≤ y) (h2 : y ≤ 10000) : 0 ≤ bef y ∧ bef y ≤ 2940202 := by
  have a := bef_mono 1950 y h1
  have b := bef_mono y 10000 h2
  rw [bef_first] at a; rw [bef_end] at b; exact ⟨a, b⟩

theorem bef_guess (n : Int) (h0 : 0 ≤ n) : bef (1950 + n / 366) ≤ n := by
  unfold bef leaps; omega

/-- the date's fields are in range -/
structure Vld (y m d h n s : Int) : Prop where
  y1 : 1950 ≤ y
  y2 : y ≤ 9999
  m1 : 1 ≤ m
  m2 : m ≤ 12
  d1 : 1 ≤ d
  d2 : d ≤ mlen y m
  h1 : 0 ≤ h
  h2 : h ≤ 23
  n1 : 0 ≤ n
  n2 : n ≤ 59
  s1 : 0 ≤ s
  s2 : s ≤ 59

def dayno (y m d : Int) : Int := bef y + cum y m + d - 1
def sec (y m d h n s : Int) : Int := 86400 * dayno y m d + 3600 * h + 60 * n + s

theorem dayno_year {y m d h n s : Int} (v : Vld y m d h n s) : bef y ≤ dayno y m d ∧ dayno y m d < bef (y + 1) := by
  have c := cum_bd y m v.m1 (by have := v.m2; omega)
  have e := cum_succ y m v.m1 v.m2
  have l := cum_mono y (m + 1) 13 (by have := v.m1; omega) (by have := v.m2; omega) (by omega)
  rw [cum_last] at l
  have := v.d1; have := v.d2
  rw [bef_succ]; unfold dayno
  omega

theorem sec_bd {y m d h n s : Int} (v : Vld y m d h n s) : 0 ≤ sec y m d h n s ∧ sec y m d h n s ≤ 254033452799 := by
  have a := dayno_year v
  have b := bef_bd y v.y1 (by have := v.y2; omega)
  have c := bef_bd (y + 1) (by have := v.y1; omega) (by have := v.y2; omega)
  have := v.h1; have := v.h2; have := v.n1; have := v.n2; have := v.s1; have := v.s2
  unfold sec
  omega

/-- the order of two valid dates is that of their seconds -/
theorem year_le {y m d h n s y' m' d' h' n' s' : Int} (v : Vld y m d h n s) (v' : Vld y' m' d' h' n' s') (e : dayno y m d ≤ dayno y' m' d') : y ≤ y' := by
  have a := dayno_year v
  have b := dayno_year v'
  rcases (by omega : y' < y ∨ y ≤ y') with q | q
  · have := bef_mono (y' + 1) y (by omega); omega
  · exact q

theorem month_le {y m d m' d' : Int} (h1 : 1 ≤ m) (h2 : m ≤ 12) (h1' : 1 ≤ m') (h2' : m' ≤ 12) (d1 : 1 ≤ d) (d2' : d' ≤ mlen y m') (e : dayno y m d ≤ dayno y m' d') : m ≤ m' := by
  rcases (by omega : m' < m ∨ m ≤ m') with q | q
  · have a := cum_mono y (m' + 1) m (by omega) (by omega) (by omega)
    have b := cum_succ y m' h1' h2'
    unfold dayno at e; omega
  · exact q

theorem sec_inj {y m d h n s y' m' d' h' n' s' : Int} (v : Vld y m d h n s) (v' : Vld y' m' d' h' n' s')
    (e : sec y m d h n s = sec y' m' d' h' n' s') : y = y' ∧ m = m' ∧ d = d' ∧ h = h' ∧ n = n' ∧ s = s' := by
  have := v.h1; have := v.h2; have := v.n1; have := v.n2; have := v.s1; have := v.s2
  have := v'.h1; have := v'.h2; have := v'.n1; have := v'.n2; have := v'.s1; have := v'.s2
  have ed : dayno y m d = dayno y' m' d' := by unfold sec at e; omega
  have ey : y = y' := by
    have a := year_le v v' (by omega)
    have b := year_le v' v (by omega)
    omega
  subst ey
  have em : m = m' := by
    have a := month_le v.m1 v.m2 v'.m1 v'.m2 v.d1 v'.d2 (by omega)
    have b := month_le v'.m1 v'.m2 v.m1 v.m2 v'.d1 v.d2 (by omega)
    omega
  subst em
  have edd : d = d' := by unfold dayno at ed; omega
  subst edd
  unfold sec at e
  refine ⟨rfl, rfl, rfl, ?_, ?_, ?_⟩ <;> omega

/-- what the loop over years has found -/
theorem civil_vld (t y m r : Int) (y1 : 1950 ≤ y) (y2 : y ≤ 9999) (m1 : 1 ≤ m) (m2 : m ≤ 12) (r0 : 0 ≤ r) (r1 : r < mlen y m) :
    Vld y m (r + 1) (t % 86400 / 3600) (t % 86400 / 60 % 60) (t % 86400 % 60) := by
  refine ⟨y1, y2, m1, m2, ?_, ?_, ?_, ?_, ?_, ?_, ?_, ?_⟩ <;> omega

theorem civil_sec (t y m r : Int) (hr : r = t / 86400 - bef y - cum y m) :
    sec y m (r + 1) (t % 86400 / 3600) (t % 86400 / 60 % 60) (t % 86400 % 60) = t := by
  unfold sec dayno; omega

/-- the reference's spelling of the time of day -/
theorem clock_h (t : Int) : t / 3600 % 24 = t % 86400 / 3600 := by omega
theorem clock_n (t : Int) : t / 60 % 60 = t % 86400 / 60 % 60 := by omega
theorem clock_s (t : Int) : t % 60 = t % 86400 % 60 := by omega

end Go.Proofs.YtmmoimemfdbfgaaDoor.Cal
