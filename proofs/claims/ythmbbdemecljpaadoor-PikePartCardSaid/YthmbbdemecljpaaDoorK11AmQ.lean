/- The abstract layer, part Q: plain facts for the plain laws. -/
import Derived.Test.YthmbbdemecljpaaDoorK11AmD
namespace Go.AM
theorem w64 {n : Int} (h0 : -9223372036854775808 ≤ n) (h1 : n ≤ 9223372036854775807) : IntKind.i64.wrap n = n := by
  simp only [IntKind.wrap, IntKind.bits, IntKind.signed]
  simp
  omega
theorem idx_at {α : Type} {l : List α} {v : Int} {i : Nat} (e : v = i) (h : i < l.length) : idx l v = some l[i] := by
  subst e; simp [idx, h]
theorem idx_none {α : Type} {l : List α} {v : Int} (h : v < 0 ∨ (l.length : Int) ≤ v) : idx l v = none := by
  unfold idx
  split
  · rcases h with h | h
    · omega
    · simp; omega
  · rfl
theorem sub_at {α : Type} {l : List α} {v u : Int} {a b : Nat} (ev : v = a) (eu : u = b) (h : a ≤ b) (h' : b ≤ l.length) : sub l v u = some ((l.take b).drop a) := by
  subst ev; subst eu
  unfold sub
  rw [if_pos (by omega)]
  simp
theorem sub_from {α : Type} {l : List α} {v u : Int} {a : Nat} (ev : v = a) (eu : u = l.length) (h : a ≤ l.length) : sub l v u = some (l.drop a) := by
  rw [sub_at ev eu h (Nat.le_refl _)]; simp
theorem sub_to {α : Type} {l : List α} {v u : Int} {b : Nat} (ev : v = 0) (eu : u = b) (h : b ≤ l.length) : sub l v u = some (l.take b) := by
  rw [sub_at (a := 0) ev eu (by omega) h]; simp
theorem u8_eq {a b : UInt8} : ((a.toNat : Int) == (b.toNat : Int)) = (a == b) := by
  by_cases h : a = b
  · subst h; simp
  · have : ¬ a.toNat = b.toNat := fun e => h (UInt8.toNat_inj.1 e)
    rw [beq_eq_false_iff_ne.2 h, beq_eq_false_iff_ne]
    omega
end Go.AM
