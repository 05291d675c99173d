
/-
  THE SECOND BLOCK, plain: which groups may be, their bytes, what bytes say.
-/
import Derived.Test.YtafonjnanfekkaaSupN
namespace Go.Proofs.Ytafonjnanfekkaa.Lay
open Go.RowKit Go.Proofs.Ytafonjnanfekkaa.Wire
set_option linter.unusedVariables false
set_option linter.unusedSimpArgs false

abbrev Grp := Int × Int × Int
def gcells (gs : List Grp) : List Value := gs.flatMap fun g => [.int .i64 g.1, .int .i64 g.2.1, .int .i64 g.2.2]
theorem gcells_length (gs : List Grp) : (gcells gs).length = gs.length * 3 := by
  induction gs with
  | nil => rfl
  | cons g gs ih => simp only [gcells, List.flatMap_cons, List.length_append, List.length_cons, List.length_nil] at ih ⊢; omega
theorem flat3_at {α β : Type} (f0 f1 f2 : α → β) : ∀ (gs : List α) (k : Nat) (g : α), gs[k]? = some g →
    (gs.flatMap fun g => [f0 g, f1 g, f2 g])[k * 3]? = some (f0 g) ∧ (gs.flatMap fun g => [f0 g, f1 g, f2 g])[k * 3 + 1]? = some (f1 g) ∧ (gs.flatMap fun g => [f0 g, f1 g, f2 g])[k * 3 + 2]? = some (f2 g)
  | [], k, g, h => by simp at h
  | x :: gs, 0, g, h => by simp at h; subst h; simp
  | x :: gs, k + 1, g, h => by
    have := flat3_at f0 f1 f2 gs k g (by simpa using h)
    rw [show (k + 1) * 3 = k * 3 + 3 by omega]
    simpa [List.flatMap_cons] using this
theorem gcells_at {gs : List Grp} {k : Nat} {g : Grp} (h : gs[k]? = some g) : (gcells gs)[k * 3]? = some (.int .i64 g.1) ∧ (gcells gs)[k * 3 + 1]? = some (.int .i64 g.2.1) ∧ (gcells gs)[k * 3 + 2]? = some (.int .i64 g.2.2) :=
  flat3_at _ _ _ gs k g h
theorem gcells_snoc (gs : List Grp) (g : Grp) : gcells (gs ++ [g]) = gcells gs ++ [.int .i64 g.1, .int .i64 g.2.1, .int .i64 g.2.2] := by simp [gcells]
theorem one_gcells (gs : List Grp) : ∀ u ∈ gcells gs, u.oneCell' = true := fun u hu => by
  simp only [gcells, List.mem_flatMap] at hu
  obtain ⟨g, _, hu⟩ := hu
  simp at hu
  rcases hu with rfl | rfl | rfl <;> rfl

def gOk1 (g : Grp) : Bool := rg g.1 0 65535 && (rg g.2.1 0 65535 && rg g.2.2 0 65535)
def gsOk (gs : List Grp) : Bool := rg gs.length 1 14 && gs.all gOk1
def gL (gs : List Grp) : List Nat := gs.flatMap fun g => [g.1.toNat, g.2.1.toNat, g.2.2.toNat]
def gWs (n : Nat) : List Int := List.replicate (3 * n) 4
def gB (gs : List Grp) : List UInt8 := if gsOk gs = true then sealB 1#32 (packB (gL gs) (gWs gs.length) 256) else []
def gE (gs : List Grp) : Int := if gsOk gs = true then 0 else 22
theorem gL_length (gs : List Grp) : (gL gs).length = 3 * gs.length := by
  induction gs with
  | nil => rfl
  | cons g gs ih => simp only [gL, List.flatMap_cons, List.length_append, List.length_cons, List.length_nil] at ih ⊢; omega
theorem gL_snoc (gs : List Grp) (g : Grp) : gL (gs ++ [g]) = gL gs ++ [g.1.toNat, g.2.1.toNat, g.2.2.toNat] := by simp [gL]
theorem gOk1_parts {g : Grp} (h : gOk1 g = true) : (0 ≤ g.1 ∧ g.1 ≤ 65535) ∧ (0 ≤ g.2.1 ∧ g.2.1 ≤ 65535) ∧ (0 ≤ g.2.2 ∧ g.2.2 ≤ 65535) := by
  simp only [gOk1, Bool.and_eq_true] at h
  exact ⟨rg_true h.1, rg_true h.2.1, rg_true h.2.2⟩
theorem gL_le {gs : List Grp} (h : gs.all gOk1 = true) : ∀ x ∈ gL gs, x ≤ 65535 := fun x hx => by
  simp only [gL, List.mem_flatMap] at hx
  obtain ⟨g, hg, hx⟩ := hx
  have := gOk1_parts (List.all_eq_true.1 h g hg)
  simp at hx
  omega
theorem gWs_wok (n : Nat) : wok (gWs n) = true := by
  simp only [wok, gWs, List.all_eq_true, List.mem_replicate]
  rintro x ⟨_, rfl⟩
  rfl
theorem gWs_four (n : Nat) : ∀ z ∈ gWs n, z ≤ 4 := fun z hz => by
  simp only [gWs, List.mem_replicate] at hz
  omega
theorem gWs_sum (n : Nat) : (gWs n).sum = 12 * (n : Int) := by
  have : ∀ m : Nat, (List.replicate m (4 : Int)).sum = 4 * (m : Int) := fun m => by
    induction m with
    | zero => rfl
    | succ m ih => rw [List.replicate_succ, List.sum_cons, ih]; omega
  rw [gWs, this]; omega
theorem gB_len {gs : List Grp} (h : gsOk gs = true) : (gB gs).length = 256 := by
  have h' := h
  simp only [gsOk, Bool.and_eq_true] at h'
  obtain ⟨hn1, hn2⟩ := rg_true h'.1
  have hm : pmay (gL gs) (gWs gs.length) 256 = true := by
    have h1 : (gL gs).length = (gWs gs.length).length := by rw [gL_length]; simp [gWs]
    have h2 := gWs_wok gs.length
    have h3 : (gWs gs.length).sum ≤ 256 := by rw [gWs_sum]; omega
    simp [pmay, h1, h2, h3]
  have hz : ∀ p ∈ (gL gs).zip (gWs gs.length), p.1 < 256 ^ p.2.toNat := fun p hp => by
    obtain ⟨h1, h2⟩ := List.of_mem_zip (a := p.1) (b := p.2) hp
    have h3 := gL_le h'.2 _ h1
    simp only [gWs, List.mem_replicate] at h2
    rw [h2.2]
    show p.1 < 256 ^ 4
    omega
  rw [gB, if_pos h, sealB_length, (packB_full hm hz (by omega)).2.2]
  rfl

/-- What a block says of n groups. -/
def ugs (bs : List UInt8) (n : Nat) : List Grp := (List.range n).map fun (i : Nat) => (uf bs (12 * (i : Int)) 4, uf bs (12 * (i : Int) + 4) 4, uf bs (12 * (i : Int) + 8) 4)
theorem ugs_length (bs : List UInt8) (n : Nat) : (ugs bs n).length = n := by simp [ugs]
theorem ugs_at {bs : List UInt8} {n k : Nat} (h : k < n) : (ugs bs n)[k]? = some (uf bs (12 * (k : Int)) 4, uf bs (12 * (k : Int) + 4) 4, uf bs (12 * (k : Int) + 8) 4) := by
  simp [ugs, h]
theorem recs_four (bs : List UInt8) (m j : Nat) (h : j < m) : (recs bs 0 (List.replicate m 4))[j]? = some (uf bs (4 * (j : Int)) 4) := by
  have := recs_at bs (List.replicate m 4) 0 j 4 (by simp [h])
  rw [this]
  have hs : ∀ q : Nat, (List.replicate q (4 : Int)).sum = 4 * (q : Int) := fun q => by
    induction q with
    | zero => rfl
    | succ q ih => rw [List.replicate_succ, List.sum_cons, ih]; omega
  rw [List.take_replicate, hs, Nat.min_eq_left (by omega), Int.zero_add]
  rfl
def ugOk (bs : List UInt8) (n : Int) : Bool := rg n 1 14 && (gsOk (ugs bs n.toNat) && (bs == gB (ugs bs n.toNat)))
def ugE (bs : List UInt8) (n : Int) : Int := if rg n 1 14 = true then (if ugOk bs n = true then 0 else 117) else 22
def ugX (bs : List UInt8) (n : Int) : List Grp := if ugOk bs n = true then ugs bs n.toNat else []
theorem ugOk_len {bs : List UInt8} {n : Int} (h : ugOk bs n = true) : bs.length = 256 := by
  simp only [ugOk, Bool.and_eq_true, beq_iff_eq] at h
  rw [h.2.2]
  exact gB_len h.2.1
end Go.Proofs.Ytafonjnanfekkaa.Lay
