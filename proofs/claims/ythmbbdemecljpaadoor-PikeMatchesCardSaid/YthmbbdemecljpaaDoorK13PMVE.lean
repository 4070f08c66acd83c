/- The document's way, one behind the other, is the mirror's; both matches. -/
import Derived.Test.YthmbbdemecljpaaDoorK13PMVD
namespace Go.Proofs.YthmbbdemecljpaaDoor
open Go Go.AM
set_option linter.unusedVariables false
set_option linter.unusedSimpArgs false
set_option maxRecDepth 100000
namespace Pk
def conv (x : Ins) : T_millwrightref08_Instr := T_millwrightref08_Instr.mk x.f_Op x.f_X x.f_Y x.f_Set
abbrev RG := (List T_millwrightref08_Instr) → (List UInt8) → (List Bool) → Int → Int → (List Int) → Option ((List Int) × Bool × (List Bool))
theorem idx_map {p : List Ins} {a : Int} : idx (p.map conv) a = (idx p a).map conv := by
  unfold idx; split
  · rw [List.getElem?_map]
  · rfl
theorem spot {n m a i : Nat} (ha : a < n) (hi : i ≤ m) : a * (m + 1) + i < n * (m + 1) := by
  have : (a + 1) * (m + 1) ≤ n * (m + 1) := Nat.mul_le_mul_right _ ha
  rw [Nat.add_mul] at this; omega
theorem spot_small {n m a i : Nat} (hn : n ≤ 60) (hm : m ≤ 60) (ha : a < n) (hi : i ≤ m) : a * (m + 1) + i < 4000 := by
  have h1 := spot ha hi
  have h2 : n * (m + 1) ≤ 60 * 61 := Nat.mul_le_mul hn (by omega)
  omega
theorem spot_eq {m a b x y : Nat} (hx : x ≤ m) (hy : y ≤ m) (h : a * (m + 1) + x = b * (m + 1) + y) : a = b ∧ x = y := by
  have h1 : (a * (m + 1) + x) % (m + 1) = x := by rw [Nat.mul_comm, Nat.mul_add_mod]; exact Nat.mod_eq_of_lt (by omega)
  have h2 : (b * (m + 1) + y) % (m + 1) = y := by rw [Nat.mul_comm, Nat.mul_add_mod]; exact Nat.mod_eq_of_lt (by omega)
  have h3 : x = y := by rw [← h1, h, h2]
  subst h3
  exact ⟨Nat.eq_of_mul_eq_mul_right (by omega) (by omega : a * (m + 1) = b * (m + 1)), rfl⟩
theorem spot_int {n m a i : Nat} (hn : n ≤ 60) (hm : m ≤ 60) (ha : a < n) (hi : i ≤ m) : IntKind.i64.wrap (IntKind.i64.wrap ((a : Int) * IntKind.i64.wrap ((m : Int) + 1)) + (i : Int)) = ((a * (m + 1) + i : Nat) : Int) := by
  have h1 := spot_small hn hm ha hi
  have h2 : (a : Int) * ((m : Int) + 1) = ((a * (m + 1) : Nat) : Int) := by rw [Int.natCast_mul]; rfl
  rw [w64 (n := (m : Int) + 1) (by omega) (by omega), h2, w64 (n := ((a * (m + 1) : Nat) : Int)) (by omega) (by omega), w64 (by omega) (by omega)]
  rfl

/-- A call at an instruction that was not yet seen at that place. -/
theorem rdm1 {K : Nat} (hK : 64 < K) {rf : RG} {p : List Ins} {s : List UInt8} {i : Nat} {been : List Bool} {a : Int} {k : Kp} {x : Ins} (hx : idx p a = some x) (hn : p.length ≤ 60) (hm : s.length ≤ 60) (hi : i ≤ s.length) (hk : k.length = 20) (hset : SetOk x.f_Set)
    (hb : been.length = p.length * (s.length + 1)) (hs : been[a.toNat * (s.length + 1) + i]? = some false) :
    match act s.length i x a k with
      | .stop => ∃ kk, millwrightref09_search_from_m1.b K rf (p.map conv) s been a i k = some (kk, false, upd been (a.toNat * (s.length + 1) + i) true)
      | .go b k' => millwrightref09_search_from_m1.b K rf (p.map conv) s been a i k = rf (p.map conv) s (upd been (a.toNat * (s.length + 1) + i) true) b i k'
      | .fork x y => millwrightref09_search_from_m1.b K rf (p.map conv) s been a i k = (rf (p.map conv) s (upd been (a.toNat * (s.length + 1) + i) true) x i k).bind fun v => if v.2.1 then some (v.1, true, v.2.2) else (rf) (p.map conv) s v.2.2 y i k
      | .eat => if hasf s i x then millwrightref09_search_from_m1.b K rf (p.map conv) s been a i k = rf (p.map conv) s (upd been (a.toNat * (s.length + 1) + i) true) (a + 1) ((i + 1 : Nat) : Int) k
          else ∃ kk, millwrightref09_search_from_m1.b K rf (p.map conv) s been a i k = some (kk, false, upd been (a.toNat * (s.length + 1) + i) true)
      | .hit => millwrightref09_search_from_m1.b K rf (p.map conv) s been a i k = some (k, true, upd been (a.toNat * (s.length + 1) + i) true) := by
  obtain ⟨h0, h1, h2⟩ := idx_ok hx
  obtain ⟨j, rfl⟩ : ∃ j : Nat, a = j := ⟨a.toNat, by omega⟩
  rw [Int.toNat_natCast] at hs ⊢
  have hsp := spot (m := s.length) (show j < p.length by omega) hi
  have hI := spot_int hn hm (show j < p.length by omega) hi
  have hw1 : IntKind.i64.wrap ((j : Int) + 1) = (j : Int) + 1 := w64 (by omega) (by omega)
  have hw2 : IntKind.i64.wrap ((i : Int) + 1) = ((i + 1 : Nat) : Int) := by rw [w64 (by omega) (by omega)]; rfl
  have eta : ∀ o : Option ((List Int) × Bool × (List Bool)), (o.bind fun v => some (v.1, v.2.1, v.2.2)) = o := fun o => by cases o <;> rfl
  have hgd : (0 : Int) ≤ ((j * (s.length + 1) + i : Nat) : Int) ∧ ((j * (s.length + 1) + i : Nat) : Int) < (been.length : Int) := ⟨by omega, by rw [hb]; omega⟩
  have hq : idx (p.map conv) (j : Int) = some (conv x) := by rw [idx_map, hx]; rfl
  have hbody : millwrightref09_search_from_m1.b K rf (p.map conv) s been j i k = millwrightref09_search_from_m1.j36 K rf (p.map conv) s been j i k := by
    unfold millwrightref09_search_from_m1.b
    rw [if_neg (by simp), if_neg (by simp; omega), hI, if_pos hgd, Nat.zero_add, Int.toNat_natCast, hs, Option.bind_some]
    unfold millwrightref09_search_from_m1.j39
    rw [if_neg (by decide)]
  rw [hbody]
  unfold millwrightref09_search_from_m1.j36 millwrightref09_search_from_m1.j9 millwrightref09_search_from_m1.j27 millwrightref09_search_from_m1.j22 millwrightref09_search_from_m1.j4
  rw [hI, if_pos hgd, Nat.zero_add, Int.toNat_natCast, hs, Option.bind_some, hq, Option.bind_some]
  simp only [show (conv x).f_Op = x.f_Op from rfl, show (conv x).f_X = x.f_X from rfl, show (conv x).f_Y = x.f_Y from rfl, show (conv x).f_Set = x.f_Set from rfl, eta, hw1, hw2]
  by_cases o0 : x.f_Op = 0
  · by_cases hlt : i < s.length
    · have hsi : s[i]? = some s[i] := List.getElem?_eq_getElem hlt
      have hidx : idx s (i : Int) = some s[i] := by unfold idx; rw [if_pos (by omega), Int.toNat_natCast, hsi]
      have hlt256 := s[i].toNat_lt
      have hhas : millwrightref06_Has.f K x.f_Set (IntKind.i64.wrap ((s[i].toNat : Nat) : Int)) = some (hasf s i x) := by
        rw [w64 (by omega) (by omega), ref_has hset (by omega) hK]
        unfold hasf; rw [hsi]
      cases hv : hasf s i x with
      | true => rw [hv] at hhas; simp [act, o0, hlt, hidx, hhas, hv]
      | false => rw [hv] at hhas; simp [act, o0, hlt, hidx, hhas, hv]
    · have hno : hasf s i x = false := by unfold hasf; rw [List.getElem?_eq_none (by omega)]
      simp [act, o0, hlt, hno]
  by_cases o1 : x.f_Op = 1
  · simp [act, o1]
  by_cases o2 : x.f_Op = 2
  · simp [act, o2]
  by_cases o3 : x.f_Op = 3
  · simp only [act, o3, keep]
    by_cases g0 : x.f_X ≥ 0
    · have hx0 : 0 ≤ x.f_X := g0
      by_cases g1 : x.f_X < 20
      · obtain ⟨z, hz⟩ : ∃ z, k[x.f_X.toNat]? = some z := ⟨k[x.f_X.toNat]'(by omega), List.getElem?_eq_getElem _⟩
        simp [g0, g1, hx0, hz]
      · simp [g0, g1, hx0]
    · have hx0 : ¬ 0 ≤ x.f_X := g0
      simp [g0, hx0]
  by_cases o4 : x.f_Op = 4
  · by_cases g : i = 0
    · subst g; simp [act, o4]
    · simp [act, o4, g]
  by_cases o5 : x.f_Op = 5
  · by_cases g : i = s.length
    · subst g; simp [act, o5]
    · have : ¬ ((i : Int) = (s.length : Int)) := by omega
      simp [act, o5, g, this]
  by_cases o6 : x.f_Op = 6
  · by_cases g : i = s.length
    · subst g; simp [act, o6]
    · have : ¬ ((i : Int) = (s.length : Int)) := by omega
      simp [act, o6, g, this]
  simp [act, o0, o1, o2, o3, o4, o5, o6]

/-- A call at an instruction that was not yet seen at that place. -/
theorem rdm0 {K : Nat} (hK : 64 < K) {rf : RG} {p : List Ins} {s : List UInt8} {i : Nat} {been : List Bool} {a : Int} {k : Kp} {x : Ins} (hx : idx p a = some x) (hn : p.length ≤ 60) (hm : s.length ≤ 60) (hi : i ≤ s.length) (hk : k.length = 20) (hset : SetOk x.f_Set)
    (hb : been.length = p.length * (s.length + 1)) (hs : been[a.toNat * (s.length + 1) + i]? = some false) :
    match act s.length i x a k with
      | .stop => ∃ kk, millwrightref09_search_from_m0.b K rf (p.map conv) s been a i k = some (kk, false, upd been (a.toNat * (s.length + 1) + i) true)
      | .go b k' => millwrightref09_search_from_m0.b K rf (p.map conv) s been a i k = rf (p.map conv) s (upd been (a.toNat * (s.length + 1) + i) true) b i k'
      | .fork x y => millwrightref09_search_from_m0.b K rf (p.map conv) s been a i k = (rf (p.map conv) s (upd been (a.toNat * (s.length + 1) + i) true) x i k).bind fun v => if v.2.1 then some (v.1, true, v.2.2) else (millwrightref09_search_from_m1.f K) (p.map conv) s v.2.2 y i k
      | .eat => if hasf s i x then millwrightref09_search_from_m0.b K rf (p.map conv) s been a i k = rf (p.map conv) s (upd been (a.toNat * (s.length + 1) + i) true) (a + 1) ((i + 1 : Nat) : Int) k
          else ∃ kk, millwrightref09_search_from_m0.b K rf (p.map conv) s been a i k = some (kk, false, upd been (a.toNat * (s.length + 1) + i) true)
      | .hit => millwrightref09_search_from_m0.b K rf (p.map conv) s been a i k = some (k, true, upd been (a.toNat * (s.length + 1) + i) true) := by
  obtain ⟨h0, h1, h2⟩ := idx_ok hx
  obtain ⟨j, rfl⟩ : ∃ j : Nat, a = j := ⟨a.toNat, by omega⟩
  rw [Int.toNat_natCast] at hs ⊢
  have hsp := spot (m := s.length) (show j < p.length by omega) hi
  have hI := spot_int hn hm (show j < p.length by omega) hi
  have hw1 : IntKind.i64.wrap ((j : Int) + 1) = (j : Int) + 1 := w64 (by omega) (by omega)
  have hw2 : IntKind.i64.wrap ((i : Int) + 1) = ((i + 1 : Nat) : Int) := by rw [w64 (by omega) (by omega)]; rfl
  have eta : ∀ o : Option ((List Int) × Bool × (List Bool)), (o.bind fun v => some (v.1, v.2.1, v.2.2)) = o := fun o => by cases o <;> rfl
  have hgd : (0 : Int) ≤ ((j * (s.length + 1) + i : Nat) : Int) ∧ ((j * (s.length + 1) + i : Nat) : Int) < (been.length : Int) := ⟨by omega, by rw [hb]; omega⟩
  have hq : idx (p.map conv) (j : Int) = some (conv x) := by rw [idx_map, hx]; rfl
  have hbody : millwrightref09_search_from_m0.b K rf (p.map conv) s been j i k = millwrightref09_search_from_m0.j36 K rf (p.map conv) s been j i k := by
    unfold millwrightref09_search_from_m0.b
    rw [if_neg (by simp), if_neg (by simp; omega), hI, if_pos hgd, Nat.zero_add, Int.toNat_natCast, hs, Option.bind_some]
    unfold millwrightref09_search_from_m0.j39
    rw [if_neg (by decide)]
  rw [hbody]
  unfold millwrightref09_search_from_m0.j36 millwrightref09_search_from_m0.j9 millwrightref09_search_from_m0.j27 millwrightref09_search_from_m0.j22 millwrightref09_search_from_m0.j4
  rw [hI, if_pos hgd, Nat.zero_add, Int.toNat_natCast, hs, Option.bind_some, hq, Option.bind_some]
  simp only [show (conv x).f_Op = x.f_Op from rfl, show (conv x).f_X = x.f_X from rfl, show (conv x).f_Y = x.f_Y from rfl, show (conv x).f_Set = x.f_Set from rfl, eta, hw1, hw2]
  by_cases o0 : x.f_Op = 0
  · by_cases hlt : i < s.length
    · have hsi : s[i]? = some s[i] := List.getElem?_eq_getElem hlt
      have hidx : idx s (i : Int) = some s[i] := by unfold idx; rw [if_pos (by omega), Int.toNat_natCast, hsi]
      have hlt256 := s[i].toNat_lt
      have hhas : millwrightref06_Has.f K x.f_Set (IntKind.i64.wrap ((s[i].toNat : Nat) : Int)) = some (hasf s i x) := by
        rw [w64 (by omega) (by omega), ref_has hset (by omega) hK]
        unfold hasf; rw [hsi]
      cases hv : hasf s i x with
      | true => rw [hv] at hhas; simp [act, o0, hlt, hidx, hhas, hv]
      | false => rw [hv] at hhas; simp [act, o0, hlt, hidx, hhas, hv]
    · have hno : hasf s i x = false := by unfold hasf; rw [List.getElem?_eq_none (by omega)]
      simp [act, o0, hlt, hno]
  by_cases o1 : x.f_Op = 1
  · simp [act, o1]
  by_cases o2 : x.f_Op = 2
  · simp [act, o2]
  by_cases o3 : x.f_Op = 3
  · simp only [act, o3, keep]
    by_cases g0 : x.f_X ≥ 0
    · have hx0 : 0 ≤ x.f_X := g0
      by_cases g1 : x.f_X < 20
      · obtain ⟨z, hz⟩ : ∃ z, k[x.f_X.toNat]? = some z := ⟨k[x.f_X.toNat]'(by omega), List.getElem?_eq_getElem _⟩
        simp [g0, g1, hx0, hz]
      · simp [g0, g1, hx0]
    · have hx0 : ¬ 0 ≤ x.f_X := g0
      simp [g0, hx0]
  by_cases o4 : x.f_Op = 4
  · by_cases g : i = 0
    · subst g; simp [act, o4]
    · simp [act, o4, g]
  by_cases o5 : x.f_Op = 5
  · by_cases g : i = s.length
    · subst g; simp [act, o5]
    · have : ¬ ((i : Int) = (s.length : Int)) := by omega
      simp [act, o5, g, this]
  by_cases o6 : x.f_Op = 6
  · by_cases g : i = s.length
    · subst g; simp [act, o6]
    · have : ¬ ((i : Int) = (s.length : Int)) := by omega
      simp [act, o6, g, this]
  simp [act, o0, o1, o2, o3, o4, o5, o6]
end Pk
end Go.Proofs.YthmbbdemecljpaaDoor
