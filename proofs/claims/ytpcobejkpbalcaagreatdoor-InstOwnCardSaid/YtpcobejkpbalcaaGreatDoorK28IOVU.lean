/- Patterns, and words in the place of words: as the code has them. -/
import Derived.Test.YtpcobejkpbalcaaGreatDoorK28IOVW
namespace Go.Proofs.YtpcobejkpbalcaaGreatDoor.St
open Go Go.AM Go.ChangeShapes Go.ChangeAt Go.RowKit
set_option linter.unusedVariables false
set_option linter.unusedSimpArgs false
set_option maxRecDepth 100000
abbrev Tx := List UInt8
def wildB (b : UInt8) : Bool := b.toNat == 37 || b.toNat == 38
theorem wild_all : ∀ n : Fin 256, decide (Lib.indexByte [37, 38] ((n.val : Int).toNat.toUInt8) ≥ 0) = (n.val == 37 || n.val == 38) := by decide +kernel
theorem wild_eq (k : Nat) (b : UInt8) : stem_wild.f k (b.toNat : Int) = some (wildB b) := by
  unfold stem_wild.f pIndexByte.f
  rw [Option.bind_some]
  exact congrArg some (wild_all ⟨b.toNat, b.toNat_lt⟩)
def wildO (r : Tx) (i : Nat) : Sum Unit Int := match r.findIdx? wildB with | none => .inl () | some j => .inr ((i + j : Nat) : Int)
theorem wildO_cons (b : UInt8) (r : Tx) (i : Nat) : wildO (b :: r) i = if wildB b then .inr (i : Int) else wildO r (i + 1) := by
  unfold wildO
  rw [List.findIdx?_cons]
  cases wildB b with
  | true => rfl
  | false =>
    cases r.findIdx? wildB with
    | none => rfl
    | some j => simp; omega
theorem wild_loop (k : Nat) (p : Tx) (hp : p.length ≤ 100000) : ∀ (r : Tx) (fuel i : Nat), p.drop i = r → r.length < fuel → stem_Wild.l3 k p fuel (i : Int) = some (wildO r i)
  | _, 0, _, _, h => by omega
  | [], f + 1, i, hd, _ => by
    have := Nl.at_nil hd
    unfold stem_Wild.l3
    rw [if_neg (by simp; omega)]; rfl
  | b :: r, f + 1, i, hd, hf => by
    obtain ⟨g1, g2, g3⟩ := Nl.at_drop hd
    unfold stem_Wild.l3
    rw [if_pos (by simp; exact g3), g1, Option.bind_some, wild_eq, Option.bind_some, Nl.wr1 (by omega), wild_loop k p hp r f (i + 1) g2 (by simpa using hf), wildO_cons]
    cases wildB b <;> rfl
def wildI (p : Tx) : Int := match p.findIdx? wildB with | none => -1 | some j => (j : Int)
theorem Wild_eq (k : Nat) (p : Tx) (hp : p.length ≤ 100000) (hk : p.length < k) : stem_Wild.f k p = some (wildI p) := by
  unfold stem_Wild.f stem_Wild.j1
  have e : stem_Wild.l3 k p k 0 = _ := wild_loop k p hp p k 0 rfl hk
  rw [e, Option.bind_some]
  unfold wildO wildI
  cases p.findIdx? wildB with
  | none => rfl
  | some j => simp
def narrowS (s : Tx) : Bool := !(s.contains 46 || s.contains 47)
theorem index_cases (c : UInt8) : ∀ l : List UInt8, (c ∉ l ∧ Lib.indexByte l c = -1) ∨ ∃ a b, l = a ++ c :: b ∧ c ∉ a ∧ Lib.indexByte l c = (a.length : Int)
  | [] => .inl ⟨by simp, rfl⟩
  | x :: l => by
    unfold Lib.indexByte
    by_cases h : x = c
    · subst h; exact .inr ⟨[], l, rfl, by simp, by simp⟩
    · rw [if_neg (by simpa using h)]
      rcases index_cases c l with ⟨h1, h2⟩ | ⟨a, b, h1, h2, h3⟩
      · left; rw [h2]; exact ⟨by simp; exact ⟨fun e => h e.symm, h1⟩, by simp⟩
      · right; refine ⟨x :: a, b, by simp [h1], by simp; exact ⟨fun e => h e.symm, h2⟩, ?_⟩
        rw [h3, if_neg (by simp)]; simp

theorem ixB (s : Tx) (c : UInt8) : decide (Lib.indexByte s c < 0) = !s.contains c := by
  rcases index_cases c s with ⟨h1, h2⟩ | ⟨a, b, h1, _, h2⟩
  · rw [h2]
    have : s.contains c = false := by simpa using h1
    rw [this]; rfl
  · rw [h2]
    have : s.contains c = true := by rw [h1]; simp
    rw [this]
    simp
theorem narrow_eq (k : Nat) (s : Tx) : stem_Narrow.f k s = some (narrowS s) := by
  unfold stem_Narrow.f pIndexByte.f narrowS
  rw [Option.bind_some, Option.bind_some]
  have e1 : ((46 : Int).toNat.toUInt8) = 46 := rfl
  have e2 : ((47 : Int).toNat.toUInt8) = 47 := rfl
  rw [e1, e2, ixB, ixB]
  cases s.contains 46 <;> cases s.contains 47 <;> rfl
def cutP (s p : Tx) : Tx × Bool := if p.length ≤ s.length ∧ s.take p.length = p then (s.drop p.length, true) else (s, false)
theorem cutp_eq (k : Nat) (s p : Tx) (hs : s.length ≤ 100000) : strings_CutPrefix.f k s p = some (cutP s p) := by
  unfold strings_CutPrefix.f stringslite_CutPrefix.f stringslite_HasPrefix.f cutP
  by_cases h : p.length ≤ s.length
  · rw [if_pos (by simp; omega), sub_to rfl rfl h, Option.bind_some, Option.bind_some]
    by_cases h2 : s.take p.length = p
    · rw [if_neg (by simp [h2]), sub_from rfl rfl h, Option.bind_some, if_pos ⟨h, h2⟩]; rfl
    · rw [if_pos (by simpa using h2), if_neg (fun h' => h2 h'.2)]; rfl
  · rw [if_neg (by simp; omega), Option.bind_some, if_pos (by decide), if_neg (fun h' => h h'.1)]; rfl
def cutE (s p : Tx) : Tx × Bool := if p.length ≤ s.length ∧ s.drop (s.length - p.length) = p then (s.take (s.length - p.length), true) else (s, false)
theorem cute_eq (k : Nat) (s p : Tx) (hs : s.length ≤ 100000) : strings_CutSuffix.f k s p = some (cutE s p) := by
  unfold strings_CutSuffix.f stringslite_CutSuffix.f stringslite_HasSuffix.f cutE
  by_cases h : p.length ≤ s.length
  · have e : IntKind.i64.wrap ((s.length : Int) - (p.length : Int)) = ((s.length - p.length : Nat) : Int) := by rw [w64 (by omega) (by omega)]; omega
    rw [if_pos (by simp; omega), e, sub_from rfl rfl (by omega), Option.bind_some, Option.bind_some]
    by_cases h2 : s.drop (s.length - p.length) = p
    · rw [if_neg (by simp [h2]), sub_to rfl rfl (by omega), Option.bind_some, if_pos ⟨h, h2⟩]; rfl
    · rw [if_pos (by simpa using h2), if_neg (fun h' => h2 h'.2)]; rfl
  · rw [if_neg (by simp; omega), Option.bind_some, if_pos (by decide), if_neg (fun h' => h h'.1)]; rfl
def matchS (p s : Tx) : Tx × Bool := match p.findIdx? wildB with
  | none => ([], p == s)
  | some j => if (cutP s (p.take j)).2 = true ∧ (cutE (cutP s (p.take j)).1 (p.drop (j + 1))).2 = true ∧ ¬ (p[j]? = some 38 ∧ narrowS (cutE (cutP s (p.take j)).1 (p.drop (j + 1))).1 = false) then ((cutE (cutP s (p.take j)).1 (p.drop (j + 1))).1, true) else ([], false)
theorem Match_eq (k : Nat) (p s : Tx) (hp : p.length ≤ 100000) (hk : p.length < k) (hs : s.length ≤ 100000) : stem_Match.f k p s = some (matchS p s) := by
  unfold stem_Match.f matchS
  rw [Wild_eq k p hp hk, Option.bind_some]
  unfold wildI
  cases hj : p.findIdx? wildB with
  | none => rfl
  | some j =>
    have hjl : j < p.length := by
      obtain ⟨h, _⟩ := List.findIdx?_eq_some_iff_getElem.1 hj
      exact h
    have hc : (cutP s (p.take j)).1.length ≤ 100000 := by unfold cutP; split <;> simp <;> omega
    simp only
    rw [if_neg (by simp), sub_to rfl rfl (by omega), Option.bind_some, cutp_eq k s _ hs, Option.bind_some, w64 (by omega) (by omega), sub_from (a := j + 1) (by omega) rfl (by omega), Option.bind_some, cute_eq k _ _ hc, Option.bind_some]
    unfold stem_Match.j10 stem_Match.j7
    cases h1 : (cutP s (p.take j)).2 with
    | false => rw [if_pos (by decide), if_pos rfl, if_neg (fun h => by cases h.1)]
    | true =>
      rw [if_neg (by decide)]
      cases h2 : (cutE (cutP s (p.take j)).1 (p.drop (j + 1))).2 with
      | false => rw [if_pos (by decide), if_pos rfl, if_neg (fun h => by cases h.2.1)]
      | true =>
        rw [if_neg (by decide), idx_at rfl hjl, Option.bind_some, narrow_eq, Option.bind_some, List.getElem?_eq_getElem hjl]
        have q : ((p[j].toNat : Int) == 38) = (p[j] == 38) := u8_eq (b := 38)
        rw [q]
        by_cases h3 : p[j] = 38
        · rw [if_pos (by simpa using h3)]
          cases h4 : narrowS (cutE (cutP s (p.take j)).1 (p.drop (j + 1))).1 with
          | true => rw [if_neg (by decide), if_pos ⟨rfl, rfl, fun h => by cases h.2⟩]
          | false => rw [if_pos (by decide), if_neg (fun h => h.2.2 ⟨by rw [h3], rfl⟩)]
        · rw [if_neg (by simpa using h3), if_neg (by decide), if_pos ⟨rfl, rfl, fun h => h3 (Option.some.inj h.1)⟩]
theorem matchS_len (p s : Tx) : (matchS p s).1.length ≤ s.length := by
  unfold matchS
  cases p.findIdx? wildB with
  | none => simp
  | some j =>
    simp only
    split
    · unfold cutE cutP
      split <;> split <;> simp <;> omega
    · simp
def fillS (p st : Tx) : Tx := p.flatMap fun b => if wildB b then st else [b]
theorem nums_cat (a b : Tx) : numsOf a ++ numsOf b = numsOf (a ++ b) := by simp [numsOf]
theorem nums_len (w : Tx) : (numsOf w).length = w.length := by simp [numsOf]
theorem nums_one (b : UInt8) : [(b.toNat : Int)] = numsOf [b] := by simp [numsOf]
theorem txt_nums (w : List UInt8) : txtOf (numsOf w) = w := by
  induction w with
  | nil => rfl
  | cons x w ih =>
    have : txtOf (numsOf (x :: w)) = UInt8.ofNat ((x.toNat : Int).toNat) :: txtOf (numsOf w) := rfl
    rw [this, ih]; simp
theorem fill_loop (k : Nat) (p st : Tx) (hp : p.length ≤ 1000) (hst : st.length ≤ 100000) : ∀ (r : Tx) (fuel i : Nat) (acc : Tx), p.drop i = r → r.length < fuel → acc.length ≤ 100001 * i →
    stem_Fill.l5 k p st fuel (numsOf acc) (i : Int) = some (numsOf (acc ++ fillS r st))
  | _, 0, _, _, _, h, _ => by omega
  | [], f + 1, i, acc, hd, _, _ => by
    have := Nl.at_nil hd
    unfold stem_Fill.l5
    rw [if_neg (by simp; omega)]; simp [fillS]
  | b :: r, f + 1, i, acc, hd, hf, ha => by
    obtain ⟨g1, g2, g3⟩ := Nl.at_drop hd
    have hlim : LIM = 4294967296 := rfl
    unfold stem_Fill.l5 stem_Fill.j11
    rw [if_pos (by simp; exact g3), g1, Option.bind_some, wild_eq, Option.bind_some, Option.bind_some, Nl.wr1 (by omega)]
    cases hb : wildB b with
    | true =>
      rw [if_pos rfl, if_pos (by rw [nums_len]; omega), nums_cat, fill_loop k p st hp hst r f (i + 1) _ g2 (by simpa using hf) (by simp; omega)]
      simp [fillS, hb]
    | false =>
      rw [if_neg (by decide), if_pos (by rw [nums_len]; simp; omega), nums_one, nums_cat, fill_loop k p st hp hst r f (i + 1) _ g2 (by simpa using hf) (by simp; omega)]
      simp [fillS, hb]
theorem Fill_eq (k : Nat) (p st : Tx) (hp : p.length ≤ 1000) (hk : p.length < k) (hst : st.length ≤ 100000) : stem_Fill.f k p st = some (fillS p st) := by
  unfold stem_Fill.f stem_Fill.j2
  have e : stem_Fill.l5 k p st k [] 0 = _ := fill_loop k p st hp hst p k 0 [] rfl hk (by simp)
  rw [e, Option.bind_some, txt_nums]; rfl
end Go.Proofs.YtpcobejkpbalcaaGreatDoor.St
