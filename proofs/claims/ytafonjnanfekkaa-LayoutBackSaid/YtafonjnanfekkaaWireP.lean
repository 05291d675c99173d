
/-
  PLAIN: layer 1 (wire): lists of numbers packed into bytes, and unpacked.
-/
import Derived.Test.YtafonjnanfekkaaWireN
namespace Go.Proofs.Ytafonjnanfekkaa.Wire
open Go.RowKit

def wok1 (z : Int) : Bool := decide (1 ≤ z) && decide (z ≤ 8)
/-- May all widths be? -/
def wok (ws : List Int) : Bool := ws.all wok1
theorem wok1_true {z : Int} (h : wok1 z = true) : 1 ≤ z ∧ z ≤ 8 := by simpa [wok1] using h
theorem wok_at {ws : List Int} (h : wok ws = true) {k : Nat} {z : Int} (hz : ws[k]? = some z) : 1 ≤ z ∧ z ≤ 8 :=
  wok1_true (List.all_eq_true.1 h z (List.mem_of_getElem? hz))
theorem wsum_le (ws : List Int) : wok ws = true → (ws.length : Int) ≤ ws.sum ∧ ws.sum ≤ 8 * ws.length := by
  induction ws with
  | nil => intro _; simp
  | cons z l ih =>
    intro h
    simp only [wok, List.all_cons, Bool.and_eq_true] at h
    obtain ⟨h1, h2⟩ := wok1_true h.1
    have := ih h.2
    simp only [List.sum_cons, List.length_cons]
    omega
theorem wok_take {ws : List Int} (h : wok ws = true) (k : Nat) : wok (ws.take k) = true := by
  unfold wok at *
  rw [List.all_eq_true] at *
  exact fun z hz => h z (List.mem_of_mem_take hz)
theorem wsum_succ {ws : List Int} {k : Nat} {z : Int} (hz : ws[k]? = some z) : (ws.take (k + 1)).sum = (ws.take k).sum + z := by
  rw [List.take_add_one, hz]; simp
theorem wsum_mono {ws : List Int} (h : wok ws = true) (k : Nat) : 0 ≤ (ws.take k).sum ∧ (ws.take k).sum ≤ ws.sum := by
  have h1 := wsum_le _ (wok_take h k)
  have h2 : wok (ws.drop k) = true := by
    unfold wok at *
    rw [List.all_eq_true] at *
    exact fun z hz => h z (List.mem_of_mem_drop hz)
  have h3 := wsum_le _ h2
  have h4 : ws.sum = (ws.take k).sum + (ws.drop k).sum := by rw [← List.sum_append, List.take_append_drop]
  omega
/-- The first width that may not be. -/
theorem wok_false (ws : List Int) : wok ws = false → ∃ (j : Nat) (z : Int), ws[j]? = some z ∧ wok1 z = false ∧ wok (ws.take j) = true := by
  induction ws with
  | nil => intro h; simp [wok] at h
  | cons z l ih =>
    intro h
    cases hz : wok1 z
    · exact ⟨0, z, rfl, hz, rfl⟩
    · simp only [wok, List.all_cons, hz, Bool.true_and] at h
      obtain ⟨j, y, h1, h2, h3⟩ := ih h
      exact ⟨j + 1, y, by simpa using h1, h2, by simp only [List.take_succ_cons, wok, List.all_cons, hz, Bool.true_and]; exact h3⟩
/-- Numbers as bytes; none: one does not go in. -/
def packs : List Nat → List Int → Option (List UInt8)
  | x :: l, z :: ws => if x < 256 ^ z.toNat then (packs l ws).map (le z.toNat x ++ ·) else none
  | _, _ => some []
/-- The first numbers as bytes, come what may. -/
def pre : List Nat → List Int → Nat → List UInt8
  | x :: l, z :: ws, k + 1 => le z.toNat x ++ pre l ws k
  | _, _, _ => []
theorem pre_length : ∀ (l : List Nat) (ws : List Int) (k : Nat), l.length = ws.length → wok ws = true → ((pre l ws k).length : Int) = (ws.take k).sum
  | [], [], k, _, _ => by simp [pre]
  | x :: l, z :: ws, 0, _, _ => by simp [pre]
  | x :: l, z :: ws, k + 1, h, hw => by
    simp only [wok, List.all_cons, Bool.and_eq_true] at hw
    obtain ⟨h1, h2⟩ := wok1_true hw.1
    have := pre_length l ws k (by simpa using h) hw.2
    simp only [pre, List.length_append, le_length, List.take_succ_cons, List.sum_cons]
    omega
theorem pre_succ : ∀ (l : List Nat) (ws : List Int) (k x : Nat) (z : Int), l[k]? = some x → ws[k]? = some z → pre l ws (k + 1) = pre l ws k ++ le z.toNat x
  | [], ws, k, x, z, h, _ => by simp at h
  | y :: l, [], k, x, z, _, h => by simp at h
  | y :: l, v :: ws, 0, x, z, h, h' => by
    simp at h h'
    subst h h'
    cases l <;> cases ws <;> simp [pre]
  | y :: l, v :: ws, k + 1, x, z, h, h' => by
    simp only [pre]
    rw [pre_succ l ws k x z (by simpa using h) (by simpa using h'), List.append_assoc]
/-- Either all go in, or there is a first one that does not. -/
theorem packs_some : ∀ (l : List Nat) (ws : List Int), l.length = ws.length → (∀ (k x : Nat) (z : Int), l[k]? = some x → ws[k]? = some z → x < 256 ^ z.toNat) → packs l ws = some (pre l ws l.length)
  | [], [], _, _ => rfl
  | x :: l, z :: ws, h, hk => by
    have h0 := hk 0 x z rfl rfl
    have := packs_some l ws (by simpa using h) (fun k y v hy hv => hk (k + 1) y v (by simpa using hy) (by simpa using hv))
    simp only [packs, h0, if_true, this, Option.map_some, List.length_cons, pre]
theorem packs_none : ∀ (l : List Nat) (ws : List Int) (k x : Nat) (z : Int), l[k]? = some x → ws[k]? = some z → ¬ x < 256 ^ z.toNat → packs l ws = none
  | [], ws, k, x, z, h, _, _ => by simp at h
  | y :: l, [], k, x, z, _, h, _ => by simp at h
  | y :: l, v :: ws, 0, x, z, h, h', hx => by
    simp at h h'
    subst h h'
    simp [packs, hx]
  | y :: l, v :: ws, k + 1, x, z, h, h', hx => by
    have := packs_none l ws k x z (by simpa using h) (by simpa using h') hx
    simp only [packs, this, Option.map_none, ite_self]
theorem first_big (l : List Nat) (ws : List Int) (hl : l.length = ws.length) :
    (∀ (k x : Nat) (z : Int), l[k]? = some x → ws[k]? = some z → x < 256 ^ z.toNat) ∨
    ∃ (j x : Nat) (z : Int), l[j]? = some x ∧ ws[j]? = some z ∧ ¬ x < 256 ^ z.toNat ∧ ∀ (k y : Nat) (v : Int), k < j → l[k]? = some y → ws[k]? = some v → y < 256 ^ v.toNat := by
  induction l generalizing ws with
  | nil => left; intro k x z h; simp at h
  | cons x l ih =>
    cases ws with
    | nil => simp at hl
    | cons z ws =>
      by_cases hx : x < 256 ^ z.toNat
      · rcases ih ws (by simpa using hl) with h | ⟨j, y, v, h1, h2, h3, h4⟩
        · left
          intro k y v hy hv
          cases k with
          | zero => simp at hy hv; subst hy hv; exact hx
          | succ k => exact h k y v (by simpa using hy) (by simpa using hv)
        · right
          refine ⟨j + 1, y, v, by simpa using h1, by simpa using h2, h3, ?_⟩
          intro k y' v' hk hy hv
          cases k with
          | zero => simp at hy hv; subst hy hv; exact hx
          | succ k => exact h4 k y' v' (by omega) (by simpa using hy) (by simpa using hv)
      · right
        exact ⟨0, x, z, rfl, rfl, hx, fun k _ _ hk => absurd hk (by omega)⟩
/-- May there be such a packing? -/
def pmay (l : List Nat) (ws : List Int) (size : Int) : Bool := decide (l.length = ws.length) && (wok ws && (decide (ws.sum ≤ size) && decide (size ≤ 4096)))
/-- Pack's bytes, and its error. -/
def packB (l : List Nat) (ws : List Int) (size : Int) : List UInt8 :=
  if pmay l ws size = true then (match packs l ws with | some bs => bs ++ List.replicate (size.toNat - bs.length) 0 | none => []) else []
def packE (l : List Nat) (ws : List Int) (size : Int) : Int :=
  if pmay l ws size = true then (match packs l ws with | some _ => 0 | none => 34) else 22
/-- Unpack's numbers, and its error. -/
def unpacks : List UInt8 → List Int → List Nat
  | _, [] => []
  | bs, z :: ws => num (bs.take z.toNat) :: unpacks (bs.drop z.toNat) ws
def umay (bs : List UInt8) (ws : List Int) : Bool := wok ws && decide (ws.sum = bs.length)
def unpackX (bs : List UInt8) (ws : List Int) : List Nat := if umay bs ws = true then unpacks bs ws else []
def unpackE (bs : List UInt8) (ws : List Int) : Int := if umay bs ws = true then 0 else 22
end Go.Proofs.Ytafonjnanfekkaa.Wire
