/-
  WORDS: what an '..Upto..' row's bound gives of a slice. (My own; the seat's page on such rows says what is wanted.)
-/
import Derived.Test.YtjjbkefgbjcmeaaRows
namespace Go.Proofs.Ytjjbkefgbjcmeaa.bulks

theorem pos {H : Type} : ∀ d : DataW H, 0 < Rows.uptoBulk d
  | .lit (.string _) => by simp [Rows.uptoBulk]
  | .lit (.int _ _) | .lit (.bool _) | .lit (.float _ _) => by simp [Rows.uptoBulk]
  | .nil | .ptr _ | .slice _ _ | .agg _ | .iface _ _ | .map _ | .held _ => by simp [Rows.uptoBulk]
  | .lit l => by cases l <;> simp [Rows.uptoBulk]
theorem many {H : Type} : ∀ l : List (DataW H), l.length ≤ Rows.uptoBulkAll l
  | [] => Nat.zero_le _
  | d :: l => by
    have := pos d; have := many l
    simp only [Rows.uptoBulkAll, List.length_cons]; omega
theorem slice_le {H : Type} (xs ys : List (DataW H)) : xs.length + ys.length + 1 ≤ Rows.uptoBulk (.slice xs ys) := by
  have := many xs; have := many ys
  simp only [Rows.uptoBulk]; omega
theorem part_le {H : Type} {d : DataW H} : ∀ {l : List (DataW H)}, d ∈ l → Rows.uptoBulk d ≤ Rows.uptoBulkAll l
  | x :: l, h => by
    simp only [Rows.uptoBulkAll]
    rcases List.mem_cons.1 h with rfl | h
    · omega
    · have := part_le h; omega
theorem bound {H : Type} {l : List (DataW H)} (hk : Rows.uptoSmall H l = true) : Rows.uptoBulkAll l ≤ 1048576 := of_decide_eq_true hk
end Go.Proofs.Ytjjbkefgbjcmeaa.bulks
