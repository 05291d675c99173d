
/-
  WORDS: slices of integers that came in, as bytes, ints, numbers. No program in sight.
-/
import Derived.Test.YtafonjnanfekkaaC
import Derived.OpenShut
namespace Go.Proofs.Ytafonjnanfekkaa
open Go.RowKit

/-- A slice of integers that came in: nil, or a row of 'cap' cells that read as zs. -/
def IsRow (k : IntKind) (w : World) (a : Option Addr) (len cap : Nat) (zs : List Int) : Prop :=
  (a = none ∧ len = 0 ∧ cap = 0 ∧ zs = []) ∨
  ∃ x, a = some x ∧ len ≤ cap ∧ cap ≤ maxLen ∧ zs.length = cap ∧ (∀ i, i < zs.length → w.cell? (x.add i) = some (.int k (zs.getD i 0))) ∧ (∀ n ∈ zs, (Lit.int k n).wf = true)

theorem wf_int {k : IntKind} {n : Int} (h : (Lit.int k n).wf = true) : k.min ≤ n ∧ n ≤ k.max := by simpa [Lit.wf] using h
theorem wf_u8 {n : Int} (h : (Lit.int .u8 n).wf = true) : 0 ≤ n ∧ n < 256 := by
  have := wf_int h
  rw [show IntKind.u8.min = 0 by decide, show IntKind.u8.max = 255 by decide] at this; omega
theorem wf_u32 {n : Int} (h : (Lit.int .u32 n).wf = true) : ∃ s : BitVec 32, n = (s.toNat : Int) := by
  have := wf_int h
  rw [show IntKind.u32.min = 0 by decide, show IntKind.u32.max = 4294967295 by decide] at this
  exact ⟨BitVec.ofNat 32 n.toNat, by rw [BitVec.toNat_ofNat]; omega⟩
theorem wf_u64 {n : Int} (h : (Lit.int .u64 n).wf = true) : ∃ s : Nat, n = (s : Int) ∧ s < 18446744073709551616 := by
  have := wf_int h
  rw [show IntKind.u64.min = 0 by decide, show IntKind.u64.max = 18446744073709551615 by decide] at this
  exact ⟨n.toNat, by omega, by omega⟩

theorem row_at {k : IntKind} {w : World} {A : Option Addr} {len cap : Nat} {zs : List Int} (h : IsRow k w A len cap zs) :
    RowAt w A len ((zs.take len).map (Value.int k)) ∧ len ≤ cap ∧ (A = none → len = 0 ∧ cap = 0) ∧ (∀ n ∈ zs.take len, (Lit.int k n).wf = true) := by
  rcases h with ⟨rfl, rfl, rfl, rfl⟩ | ⟨x, rfl, hl, hm, hz, hc, hw⟩
  · exact ⟨RowAt.nil_ _ _, Nat.le_refl _, fun _ => ⟨rfl, rfl⟩, fun n h => by simp at h⟩
  · refine ⟨⟨by simp; omega, fun _ => ⟨x, rfl, fun i u hu => ?_⟩⟩, hl, (fun e => by cases e), fun n h => hw n (List.mem_of_mem_take h)⟩
    rw [List.getElem?_map, List.getElem?_take] at hu
    split at hu
    · rename_i hi
      have hlt : i < zs.length := by omega
      rw [List.getElem?_eq_getElem hlt] at hu
      injection hu with hu
      subst hu
      rw [hc i hlt, List.getD_eq_getElem?_getD, List.getElem?_eq_getElem hlt]; rfl
    · cases hu

theorem row_bytes {w : World} {A : Option Addr} {len cap : Nat} {zs : List Int} (h : IsRow .u8 w A len cap zs) :
    ∃ bs, BytesAt w A len bs ∧ len ≤ cap ∧ (A = none → len = 0 ∧ cap = 0) := by
  obtain ⟨hr, hl, hA, hw⟩ := row_at h
  refine ⟨(zs.take len).map fun z => UInt8.ofNat z.toNat, BytesAt.of_row ?_, hl, hA⟩
  have e : bvl ((zs.take len).map fun z => UInt8.ofNat z.toNat) = (zs.take len).map (Value.int .u8) := by
    rw [bvl, List.map_map]
    apply List.map_congr_left
    intro n hn
    have := wf_u8 (hw n hn)
    simp only [Function.comp, bval]
    rw [UInt8.toNat_ofNat', Nat.mod_eq_of_lt (by omega)]
    congr 1; omega
  rw [e]; exact hr
theorem row_ints {w : World} {A : Option Addr} {len cap : Nat} {zs : List Int} (h : IsRow .i64 w A len cap zs) :
    ∃ ws, RowAt w A len (ints ws) ∧ len ≤ cap ∧ (A = none → len = 0 ∧ cap = 0) ∧ (∀ z ∈ ws, -9223372036854775808 ≤ z ∧ z ≤ 9223372036854775807) := by
  obtain ⟨hr, hl, hA, hw⟩ := row_at h
  refine ⟨zs.take len, hr, hl, hA, fun z hz => ?_⟩
  exact bounds_i64 (hw z hz)
theorem row_nums {w : World} {A : Option Addr} {len cap : Nat} {zs : List Int} (h : IsRow .u64 w A len cap zs) :
    ∃ l, RowAt w A len (nums l) ∧ len ≤ cap ∧ (A = none → len = 0 ∧ cap = 0) ∧ (∀ x ∈ l, x < 18446744073709551616) := by
  obtain ⟨hr, hl, hA, hw⟩ := row_at h
  refine ⟨(zs.take len).map Int.toNat, ?_, hl, hA, fun x hx => ?_⟩
  · have e : nums ((zs.take len).map Int.toNat) = (zs.take len).map (Value.int .u64) := by
      rw [nums, List.map_map]
      apply List.map_congr_left
      intro n hn
      obtain ⟨s, rfl, hs⟩ := wf_u64 (hw n hn)
      rfl
    rw [e]; exact hr
  · rw [List.mem_map] at hx
    obtain ⟨n, hn, rfl⟩ := hx
    obtain ⟨s, rfl, hs⟩ := wf_u64 (hw n hn)
    simpa using hs
end Go.Proofs.Ytafonjnanfekkaa
