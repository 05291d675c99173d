
/-
  THE FIRST BLOCK, plain, more: its length; the values that are told.
-/
import Derived.Test.YtafonjnanfekkaaSupM
namespace Go.Proofs.Ytafonjnanfekkaa.Lay
open Go.RowKit Go.Proofs.Ytafonjnanfekkaa.Wire
set_option linter.unusedVariables false
set_option linter.unusedSimpArgs false

theorem zip_fits {l : List Nat} {ws : List Int} (h : ∀ p ∈ l.zip ws, p.1 < 256 ^ p.2.toNat) : ∀ (k x : Nat) (z : Int), l[k]? = some x → ws[k]? = some z → x < 256 ^ z.toNat := fun k x z hx hz => by
  have : (l.zip ws)[k]? = some (x, z) := by rw [List.getElem?_zip_eq_some]; exact ⟨hx, hz⟩
  exact h _ (List.mem_of_getElem? this)
theorem packB_full {l : List Nat} {ws : List Int} {size : Int} (hm : pmay l ws size = true) (h : ∀ p ∈ l.zip ws, p.1 < 256 ^ p.2.toNat) (hs : 0 ≤ size) :
    packE l ws size = 0 ∧ packB l ws size = pre l ws l.length ++ List.replicate (size.toNat - (pre l ws l.length).length) 0 ∧ (packB l ws size).length = size.toNat := by
  have hm' := hm
  simp only [pmay, Bool.and_eq_true, decide_eq_true_eq] at hm'
  obtain ⟨m1, m2, m3, m4⟩ := hm'
  have hp := packs_some l ws m1 (zip_fits h)
  have hpl := pre_length l ws l.length m1 m2
  rw [m1, List.take_length, ← m1] at hpl
  have e1 : packE l ws size = 0 := by simp [packE, hm, hp]
  have e2 : packB l ws size = pre l ws l.length ++ List.replicate (size.toNat - (pre l ws l.length).length) 0 := by simp [packB, hm, hp]
  refine ⟨e1, e2, ?_⟩
  rw [e2]
  simp
  omega
theorem super_zip {B P I J fb fi o m : Int} {cl : Bool} (h : (0 ≤ B ∧ B ≤ 4096) ∧ (0 ≤ P ∧ P ≤ 2016) ∧ (0 ≤ I ∧ I ≤ 512) ∧ (0 ≤ J ∧ J ≤ 512) ∧ (0 ≤ fb ∧ fb ≤ 4096) ∧ (0 ≤ fi ∧ fi ≤ 7168) ∧ (0 ≤ o ∧ o ≤ 7168) ∧ (0 ≤ m ∧ m ≤ 2147483647)) :
    ∀ p ∈ (superL B P I J fb fi o m cl).zip superWs, p.1 < 256 ^ p.2.toNat := by
  intro p hp
  simp only [superL, superWs, List.zip_cons_cons, List.zip_nil_right, List.mem_cons, List.not_mem_nil, or_false] at hp
  rcases hp with rfl | rfl | rfl | rfl | rfl | rfl | rfl | rfl | rfl | rfl | rfl
  all_goals simp only [show Int.toNat 4 = 4 from rfl, show Int.toNat 2 = 2 from rfl, show Int.toNat 1 = 1 from rfl]
  all_goals first | omega | (split <;> omega)
theorem super_may (B P I J fb fi o m : Int) (cl : Bool) : pmay (superL B P I J fb fi o m cl) superWs 256 = true := by
  have h1 : (superL B P I J fb fi o m cl).length = superWs.length := rfl
  have h2 : wok superWs = true := by decide
  have h3 : superWs.sum ≤ 256 := by decide
  simp [pmay, h1, h2, h3]
theorem supB_len {B P I J fb fi o m : Int} {cl : Bool} (hok : supOk B P I J fb fi o m = true) : (supB B P I J fb fi o m cl).length = 256 := by
  obtain ⟨hg, c1, c2, c3, c4⟩ := supOk_parts hok
  rw [supB, if_pos hok, sealB_length, (packB_full (super_may B P I J fb fi o m cl) (super_zip (sup_nat hg c1 c2 c3 c4)) (by omega)).2.2]
  rfl
theorem usOk_len {bs : List UInt8} (h : usOk bs = true) : bs.length = 256 := by
  simp only [usOk, Bool.and_eq_true, beq_iff_eq] at h
  have := supB_len (cl := ucl bs) h.1
  rw [← h.2] at this
  exact this
theorem uf_byte {bs : List UInt8} {p : Nat} {c : UInt8} (h : bs[p]? = some c) : uf bs p 1 = (c.toNat : Int) := by
  have hl := (List.getElem?_eq_some_iff.1 h).1
  have hf : fits bs.length (p : Int) 1 = true := fits_mk (by omega) (by omega) (by omega) (by omega)
  have hd : bs.drop p = c :: bs.drop (p + 1) := by rw [List.drop_eq_getElem_cons hl]; congr 1; exact (List.getElem?_eq_some_iff.1 h).2
  have e : (sub bs (p : Int) 1) = [c] := by
    rw [sub, Int.toNat_natCast, hd]; rfl
  show ((getX bs (p : Int) 1 : Nat) : Int) = _
  rw [getX, if_pos hf, e]
  simp [num]
theorem usV_agg (bs : List UInt8) : ∃ (x0 x1 x2 x3 x4 x5 x6 x7 : Int) (c : Bool), usV bs = .agg #[.int .i64 x0, .int .i64 x1, .int .i64 x2, .int .i64 x3, .int .i64 x4, .int .i64 x5, .int .i64 x6, .int .i64 x7, .bool c] := by
  unfold usV
  split
  · exact ⟨_, _, _, _, _, _, _, _, _, rfl⟩
  · exact ⟨_, _, _, _, _, _, _, _, _, rfl⟩
end Go.Proofs.Ytafonjnanfekkaa.Lay
