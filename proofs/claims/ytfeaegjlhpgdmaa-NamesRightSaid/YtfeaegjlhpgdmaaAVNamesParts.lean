/- A part of the proof of a given law: AVNamesParts. Own work, printed in part by a program of mine. -/
import Derived.Test.YtfeaegjlhpgdmaaAF
import Derived.Test.YtfeaegjlhpgdmaaAmQ
namespace Go.Proofs.Ytfeaegjlhpgdmaa
open Go Go.AM
set_option linter.unusedVariables false

/-- The last place of a byte in a text's first i bytes: -1: none. -/
def lastI (s : List UInt8) (c : UInt8) : Nat → Int
  | 0 => -1
  | i + 1 => if s[i]? = some c then i else lastI s c i

theorem lastI_lt (s : List UInt8) (c : UInt8) : ∀ i, -1 ≤ lastI s c i ∧ lastI s c i < i ∨ i = 0 ∧ lastI s c i = -1
  | 0 => .inr ⟨rfl, rfl⟩
  | i + 1 => by
    unfold lastI
    have := lastI_lt s c i
    split <;> omega

theorem lastI_bd (s : List UInt8) (c : UInt8) (i : Nat) : -1 ≤ lastI s c i ∧ lastI s c i < max i 1 := by
  have := lastI_lt s c i; omega

theorem lib_last (k : Nat) (s : List UInt8) (c : UInt8) (hs : s.length ≤ 1000000000) : ∀ (i n : Nat) (v : Int), v = (i : Int) - 1 → i < n → i ≤ s.length →
    bytealg_LastIndexByteString.l3 k s (c.toNat : Int) n v = some (if lastI s c i = -1 then .inl () else .inr (lastI s c i)) := by
  intro i
  induction i with
  | zero => intro n v hv hn _; obtain ⟨n, rfl⟩ : ∃ m, n = m + 1 := ⟨n - 1, by omega⟩; subst hv; simp [bytealg_LastIndexByteString.l3, lastI]
  | succ i ih =>
    intro n v hv hn hl
    obtain ⟨n, rfl⟩ : ∃ m, n = m + 1 := ⟨n - 1, by omega⟩
    have hv' : v = (i : Int) := by omega
    subst hv'
    unfold bytealg_LastIndexByteString.l3 lastI
    rw [if_pos (by simp), idx_at rfl (by omega), Option.bind_some, u8_eq, w64 (by omega) (by omega), ih n _ rfl (by omega) (by omega)]
    rw [List.getElem?_eq_getElem (by omega)]
    by_cases h : s[i] = c
    · simp [h]
    · simp [h]

theorem lib_lastIndex (k : Nat) (s : List UInt8) (c : UInt8) (hs : s.length ≤ 1000000000) (hk : s.length < k) : strings_LastIndex.f k s [c] = some (lastI s c s.length) := by
  have := lastI_bd s c s.length
  have h0 : idx [c] 0 = some c := rfl
  simp only [strings_LastIndex.f, List.length_cons, List.length_nil, h0, Option.bind_some]
  rw [if_neg (by simp), if_pos (by simp)]
  unfold bytealg_LastIndexByteString.f
  rw [w64 (by omega) (by omega), lib_last k s c hs s.length k _ rfl hk (Nat.le_refl _), Option.bind_some]
  unfold bytealg_LastIndexByteString.j1
  split
  · rename_i u h; split at h
    · rename_i e; rw [e]; rfl
    · cases h
  · rename_i u h; split at h
    · cases h
    · cases h; rfl

/-- Where the base begins. -/
def at_ (s : List UInt8) : Nat := (lastI s 47 s.length + 1).toNat
theorem at_le (s : List UInt8) : at_ s ≤ s.length ∧ (at_ s : Int) = lastI s 47 s.length + 1 := by
  have := lastI_lt s 47 s.length; unfold at_; omega

theorem cut_eq (k : Nat) (s : List UInt8) (hs : s.length ≤ 1000000000) (hk : s.length < k) : names_cut.f k s = some (at_ s : Int) := by
  have := lastI_bd s 47 s.length
  have := at_le s
  unfold names_cut.f
  rw [lib_lastIndex k s 47 hs hk, Option.bind_some, w64 (by omega) (by omega), this.2]

theorem dir_eq (k : Nat) (s : List UInt8) (hs : s.length ≤ 1000000000) (hk : s.length < k) : names_Dir.f k s = some (s.take (at_ s)) := by
  unfold names_Dir.f
  rw [cut_eq k s hs hk, Option.bind_some, sub_to rfl rfl (at_le s).1]; rfl

theorem base_eq (k : Nat) (s : List UInt8) (hs : s.length ≤ 1000000000) (hk : s.length < k) : names_Base.f k s = some (s.drop (at_ s)) := by
  unfold names_Base.f
  rw [cut_eq k s hs hk, Option.bind_some, sub_from rfl rfl (at_le s).1]; rfl

/-- The suffix. -/
def suf (s : List UInt8) : List UInt8 :=
  let b := s.drop (at_ s)
  if lastI b 46 b.length < 1 then [] else b.drop (lastI b 46 b.length).toNat

theorem suffix_eq (k : Nat) (s : List UInt8) (hs : s.length ≤ 1000000000) (hk : s.length < k) : names_Suffix.f k s = some (suf s) := by
  have hl : (s.drop (at_ s)).length ≤ s.length := by simp
  unfold names_Suffix.f suf
  rw [base_eq k s hs hk, Option.bind_some, lib_lastIndex k _ 46 (by omega) (by omega), Option.bind_some]
  have := lastI_lt (s.drop (at_ s)) 46 (s.drop (at_ s)).length
  by_cases h : lastI (s.drop (at_ s)) 46 (s.drop (at_ s)).length < 1
  · simp only [h, decide_true, if_true]
  · simp only [h, decide_false, if_false]
    rw [sub_from (a := (lastI (s.drop (at_ s)) 46 (s.drop (at_ s)).length).toNat) (by omega) rfl (by omega)]
    rfl

theorem ref_last (k : Nat) (s : List UInt8) (hs : s.length ≤ 1000000000) : ∀ (i n : Nat) (v : Int), v = (i : Int) - 1 → i < n → i ≤ s.length →
    millwrightref01_Base.l3 k s n v = some (if lastI s 47 i = -1 then .inl () else .inr (lastI s 47 i + 1)) := by
  intro i
  induction i with
  | zero => intro n v hv hn _; obtain ⟨n, rfl⟩ : ∃ m, n = m + 1 := ⟨n - 1, by omega⟩; subst hv; simp [millwrightref01_Base.l3, lastI]
  | succ i ih =>
    intro n v hv hn hl
    obtain ⟨n, rfl⟩ : ∃ m, n = m + 1 := ⟨n - 1, by omega⟩
    have hv' : v = (i : Int) := by omega
    subst hv'
    have hc : ∀ a : UInt8, ((a.toNat : Int) == 47) = (a == 47) := fun a => u8_eq (b := 47)
    unfold millwrightref01_Base.l3 lastI
    rw [if_pos (by simp), idx_at rfl (by omega), Option.bind_some, hc, w64 (by omega) (by omega), w64 (by omega) (by omega), ih n _ rfl (by omega) (by omega)]
    rw [List.getElem?_eq_getElem (by omega)]
    by_cases h : s[i] = 47
    · simp [h]
    · simp [h]

theorem refBase_eq (k : Nat) (s : List UInt8) (hs : s.length ≤ 1000000000) (hk : s.length < k) : millwrightref01_Base.f k s = some (at_ s : Int) := by
  have := at_le s
  unfold millwrightref01_Base.f
  rw [w64 (by omega) (by omega), ref_last k s hs s.length k _ rfl hk (Nat.le_refl _), Option.bind_some]
  unfold millwrightref01_Base.j1
  split
  · rename_i u h; split at h
    · rename_i e; rw [this.2, e]; rfl
    · cases h
  · rename_i u h; split at h
    · cases h
    · cases h; rw [this.2]

theorem refSuf (k : Nat) (s : List UInt8) (hs : s.length ≤ 1000000000) (hk : s.length < k) : ∀ (m n : Nat) (v : Int), v = ((at_ s + m : Nat) : Int) - 1 → m < n → at_ s + m ≤ s.length →
    millwrightref01_Suffix.l3 k s n v = some (if lastI (s.drop (at_ s)) 46 m < 1 then .inl () else .inr ((s.drop (at_ s)).drop (lastI (s.drop (at_ s)) 46 m).toNat)) := by
  intro m
  induction m with
  | zero =>
    intro n v hv hn _; obtain ⟨n, rfl⟩ : ∃ m, n = m + 1 := ⟨n - 1, by omega⟩; subst hv
    unfold millwrightref01_Suffix.l3
    rw [refBase_eq k s hs hk, Option.bind_some, if_neg (by simp; omega)]
    simp [lastI]
  | succ m ih =>
    intro n v hv hn hl
    obtain ⟨n, rfl⟩ : ∃ m, n = m + 1 := ⟨n - 1, by omega⟩
    have hv' : v = ((at_ s + m : Nat) : Int) := by omega
    subst hv'
    have hc : ∀ a : UInt8, ((a.toNat : Int) == 46) = (a == 46) := fun a => u8_eq (b := 46)
    unfold millwrightref01_Suffix.l3 lastI
    rw [refBase_eq k s hs hk, Option.bind_some]
    by_cases hm : m = 0
    · subst hm
      rw [if_neg (by simp)]
      simp only [lastI]
      split <;> simp
    · rw [if_pos (by simp; omega), idx_at rfl (by omega), Option.bind_some, hc, w64 (by omega) (by omega), ih n _ (by omega) (by omega) (by omega)]
      rw [List.getElem?_drop, List.getElem?_eq_getElem (by omega)]
      by_cases h : s[at_ s + m] = 46
      · rw [if_pos (by simp [h]), sub_from rfl rfl (by omega)]
        simp only [h, if_true, Option.bind_some]
        rw [if_neg (by omega)]
        simp
      · simp [h]

theorem refSuffix_eq (k : Nat) (s : List UInt8) (hs : s.length ≤ 1000000000) (hk : s.length < k) : millwrightref01_Suffix.f k s = some (suf s) := by
  have := at_le s
  have hl : (s.drop (at_ s)).length = s.length - at_ s := by simp
  unfold millwrightref01_Suffix.f suf
  rw [w64 (by omega) (by omega), refSuf k s hs hk (s.length - at_ s) k _ (by omega) (by omega) (by omega), Option.bind_some, ← hl]
  unfold millwrightref01_Suffix.j1
  by_cases h : lastI (s.drop (at_ s)) 46 (s.drop (at_ s)).length < 1
  · simp only [h, if_true]
  · simp only [h, if_false]

set_option maxRecDepth 100000 in
theorem alive_eq : millwrightlaw01_alive.f 400 = some true := by decide +kernel

theorem namesParts_true (s : List UInt8) (_ : Wf Un .str s) : ∃ k, millwrightlaw01_NamesParts.f k s = some true := by
  refine ⟨400, ?_⟩
  unfold millwrightlaw01_NamesParts.f
  rw [alive_eq, Option.bind_some]
  by_cases h : (s.length : Int) > 300
  · simp [h]
  · have hs : s.length ≤ 1000000000 := by omega
    have hk : s.length < 400 := by omega
    have := at_le s
    simp only [Bool.not_true, Bool.false_eq_true, if_false, h, decide_false, refBase_eq 400 s hs hk, dir_eq 400 s hs hk, base_eq 400 s hs hk, suffix_eq 400 s hs hk, refSuffix_eq 400 s hs hk, Option.bind_some,
      sub_to rfl rfl this.1, sub_from rfl rfl this.1, beq_self_eq_true, if_true]
end Go.Proofs.Ytfeaegjlhpgdmaa
