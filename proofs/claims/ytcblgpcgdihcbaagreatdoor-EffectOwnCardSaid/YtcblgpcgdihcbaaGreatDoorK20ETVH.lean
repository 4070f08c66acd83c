/- When a name was made, and what becomes of a tree, if a name is given a time: as the code has it. -/
import Derived.Test.YtcblgpcgdihcbaaGreatDoorK20ETVG
import Derived.Test.YtcblgpcgdihcbaaGreatDoorK20ETVM
import Derived.Test.YtcblgpcgdihcbaaGreatDoorK20ETTA
namespace Go.Proofs.YtcblgpcgdihcbaaGreatDoor.St
open Go Go.AM Go.ChangeShapes Go.ChangeAt Go.RowKit
set_option linter.unusedVariables false
set_option linter.unusedSimpArgs false
set_option maxRecDepth 100000
abbrev Tx := List UInt8
abbrev Fl := T_tree_File
abbrev Mp := KV Fl
abbrev Mb := T_ar_Member
def memS (s : Tx) : Tx × Tx × Bool := (names_Member.f 2000 s).getD ([], [], false)
theorem mem_cases (k : Nat) (s : Tx) (hs : s.length ≤ 1000) (hk : 1000 < k) :
    (∃ a b, Nm.Parts s a b ∧ memS s = (a, b, true) ∧ names_Member.f k s = some (a, b, true) ∧ millwrightref01_Member.f k s = some (a, b, true)) ∨
      (memS s = ([], [], false) ∧ names_Member.f k s = some ([], [], false) ∧ millwrightref01_Member.f k s = some ([], [], false)) := by
  by_cases h : ∃ a b, Nm.Parts s a b
  · obtain ⟨a, b, h⟩ := h
    left
    refine ⟨a, b, h, ?_, Nm.member_true k s a b (by omega) (by omega) h, Nm.rmember_true k s a b (by omega) (by omega) h⟩
    unfold memS; rw [Nm.member_true 2000 s a b (by omega) (by omega) h]; rfl
  · right
    refine ⟨?_, ?_, ?_⟩
    · unfold memS
      rcases Nm.member_out 2000 s (by omega) (by omega) with h' | h'
      · rw [h']; rfl
      · exact absurd h' h
    · rcases Nm.member_out k s (by omega) (by omega) with h' | h'
      · exact h'
      · exact absurd h' h
    · rcases Nm.rmember_out k s (by omega) (by omega) with h' | h'
      · exact h'
      · exact absurd h' h
theorem mem_eq (k : Nat) (s : Tx) (hs : s.length ≤ 1000) (hk : 1000 < k) : names_Member.f k s = some (memS s) := by
  rcases mem_cases k s hs hk with ⟨a, b, _, h1, h2, _⟩ | ⟨h1, h2, _⟩ <;> rw [h1, h2]
theorem rmem_eq (k : Nat) (s : Tx) (hs : s.length ≤ 1000) (hk : 1000 < k) : millwrightref01_Member.f k s = some (memS s) := by
  rcases mem_cases k s hs hk with ⟨a, b, _, h1, _, h2⟩ | ⟨h1, _, h2⟩ <;> rw [h1, h2]
theorem mem_len (s : Tx) (hs : s.length ≤ 1000) : (memS s).1.length ≤ 1000 ∧ (memS s).2.1.length ≤ 1000 := by
  rcases mem_cases 2000 s hs (by omega) with ⟨a, b, h, h1, _⟩ | ⟨h1, _⟩
  · have := congrArg List.length h.eq
    simp at this
    rw [h1]; simp only; omega
  · rw [h1]; simp

def findC (s x : Tx) : Mb × Bool := (ar_Find.f 4000 s x).getD (T_ar_Member.mk [] 0 [], false)
theorem findC_yes {l : List Mb} {s : Tx} (h : Ar.makeS l = (s, 0)) (x : Tx) : findC s x = Ar.findM l x := by
  unfold findC; rw [Ar.find_yes 4000 (Nat.le_refl _) h]; rfl
theorem findC_no {s : Tx} (hs : s.length ≤ 1800) (h : ¬ ∃ l, Ar.makeS l = (s, 0)) (x : Tx) : findC s x = (T_ar_Member.mk [] 0 [], false) := by
  unfold findC; rw [Ar.find_no 4000 (Nat.le_refl _) hs h]; rfl
theorem find_eq (k : Nat) (hk : 4000 ≤ k) (s x : Tx) (hs : s.length ≤ 1800) : ar_Find.f k s x = some (findC s x) := by
  by_cases h : ∃ l, Ar.makeS l = (s, 0)
  · obtain ⟨l, h⟩ := h
    rw [Ar.find_yes k hk h, findC_yes h]
  · rw [Ar.find_no k hk hs h, findC_no hs h]
theorem findM_len {l : List Mb} {s : Tx} (h : Ar.makeS l = (s, 0)) (x : Tx) : (Ar.findM l x).1.f_Content.length ≤ 900 := by
  obtain ⟨_, _, _, _, h9, _⟩ := Ar.make_ok h
  unfold Ar.findM
  cases e : l.find? (fun m => m.f_Name == x) with
  | none => simp
  | some m =>
    have := Ar.tot_ge (List.mem_of_find?_eq_some e)
    simp only; omega
theorem findC_len (s x : Tx) (hs : s.length ≤ 1800) : (findC s x).1.f_Content.length ≤ 900 := by
  by_cases h : ∃ l, Ar.makeS l = (s, 0)
  · obtain ⟨l, h⟩ := h
    rw [findC_yes h]; exact findM_len h x
  · rw [findC_no hs h]; simp
theorem set_no (k : Nat) (hk : 4000 ≤ k) {s : Tx} (hs : s.length ≤ 1800) (h : ¬ ∃ l, Ar.makeS l = (s, 0)) (h0 : s ≠ []) (m : Mb) : ar_Set.f k s m = some ([], 3) := by
  unfold ar_Set.f ar_Set.j13
  rw [Ar.parse_no k hk hs h, Option.bind_some]
  simp [h0]
def setC (s : Tx) (m : Mb) : Tx × Nat := (ar_Set.f 4000 s m).getD ([], 3)
theorem setC_yes {l : List Mb} {s : Tx} (h : Ar.makeS l = (s, 0)) {m : Mb} (hm : Ar.Sm m) : setC s m = Ar.makeS (Ar.putS l m) := by
  unfold setC; rw [Ar.set_yes 4000 (Nat.le_refl _) h m hm]; rfl
theorem setC_nil {m : Mb} (hm : Ar.Sm m) : setC [] m = Ar.makeS [m] := by
  unfold setC; rw [Ar.set_nil 4000 (Nat.le_refl _) m hm]; rfl
theorem setC_no {s : Tx} (hs : s.length ≤ 1800) (h : ¬ ∃ l, Ar.makeS l = (s, 0)) (h0 : s ≠ []) (m : Mb) : setC s m = ([], 3) := by
  unfold setC; rw [set_no 4000 (Nat.le_refl _) hs h h0 m]; rfl
theorem arset_eq (k : Nat) (hk : 4000 ≤ k) (s : Tx) (hs : s.length ≤ 1800) {m : Mb} (hm : Ar.Sm m) : ar_Set.f k s m = some (setC s m) := by
  by_cases h : ∃ l, Ar.makeS l = (s, 0)
  · obtain ⟨l, h⟩ := h
    rw [Ar.set_yes k hk h m hm, setC_yes h hm]
  · by_cases h0 : s = []
    · subst h0; rw [Ar.set_nil k hk m hm, setC_nil hm]
    · rw [set_no k hk hs h h0 m, setC_no hs h h0]

def content (m : Mp) (n : Tx) : Tx := ((mget n m).getD (T_tree_File.mk [] [] 0)).f_Content
def Bound (m : Mp) : Prop := ∀ y ∈ m, y.2.f_Content.length ≤ 900
theorem Bound.nil : Bound [] := fun y hy => by cases hy
theorem Bound.putS {m : Mp} (h : Bound m) (f : Fl) : Bound (Tr.putS m f).2 := by
  unfold Tr.putS
  simp only
  split
  · rename_i h0
    intro y hy
    rcases mput_mem hy with rfl | hy
    · unfold Tr.mayS at h0
      simp only
      apply Classical.byContradiction
      intro hn
      rw [if_pos (show f.f_Content.length > 900 by omega)] at h0
      split at h0 <;> cases h0
    · exact h y hy
  · exact h
theorem Bound.remS {m : Mp} (h : Bound m) (n : Tx) : Bound (Tr.remS m n).2 := by
  unfold Tr.remS
  split
  · exact fun y hy => h y (List.mem_filter.1 hy).1
  · exact h
theorem content_len {m : Mp} (h : Bound m) (n : Tx) : (content m n).length ≤ 900 := by
  unfold content
  cases e : mget n m with
  | none => simp
  | some v => exact h _ (mget_mem e)
def ofS (m : Mp) (n : Tx) : Int := if (memS n).2.2 then (findC (content m (memS n).1) (memS n).2.1).1.f_Time else ((mget n m).getD (T_tree_File.mk [] [] 0)).f_Time
def mbS (m : Mp) (lib x : Tx) (t : Int) : Mb := T_ar_Member.mk x t (findC (content m lib) x).1.f_Content
def setMS (m : Mp) (lib x : Tx) (t : Int) : Nat × Mp :=
  if t < 1 ∨ t > 549755813888 then (1, m) else
  if (setC (content m lib) (mbS m lib x t)).2 = 0 then Tr.putS m ⟨lib, (setC (content m lib) (mbS m lib x t)).1, t⟩ else ((setC (content m lib) (mbS m lib x t)).2, m)
theorem mb_sm {m : Mp} (hb : Bound m) {lib x : Tx} {t : Int} (hx : x.length ≤ 1000) (h1 : 1 ≤ t) (h2 : t ≤ 549755813888) : Ar.Sm (mbS m lib x t) := by
  have := findC_len (content m lib) x (by have := content_len hb lib; omega)
  refine ⟨?_, ?_, ?_, ?_⟩ <;> unfold mbS <;> simp only <;> omega
theorem setM_eq (k : Nat) (hk : 4000 ≤ k) (m : Mp) (hb : Bound m) (lib x : Tx) (hx : x.length ≤ 1000) (t : Int) : stat_setMember_m0.f k m lib x t = some (setMS m lib x t) := by
  have hc := content_len hb lib
  unfold stat_setMember_m0.f setMS
  have tail : ∀ b : Bool, (b = true ↔ (t < 1 ∨ t > 549755813888)) → stat_setMember_m0.j9 k m lib x t b = some (setMS m lib x t) := fun b hb' => by
    unfold stat_setMember_m0.j9 setMS
    cases b with
    | true => rw [if_pos rfl, if_pos (hb'.1 rfl)]
    | false =>
      have hn : ¬ (t < 1 ∨ t > 549755813888) := fun h => by have := hb'.2 h; cases this
      rw [if_neg (by decide), if_neg hn]
      unfold stat_setMember_m0.j6
      rw [Tr.get_eq, Option.bind_some]
      simp only
      rw [show ((mget lib m).getD (T_tree_File.mk [] [] 0)).f_Content = content m lib from rfl, find_eq k hk _ _ (by omega), Option.bind_some]
      rw [show T_ar_Member.mk x t (findC (content m lib) x).1.f_Content = mbS m lib x t from rfl, arset_eq k hk _ (by omega) (mb_sm hb hx (by omega) (by omega)), Option.bind_some]
      by_cases h0 : (setC (content m lib) (mbS m lib x t)).2 = 0
      · rw [if_neg (by simp [h0]), if_pos h0]
        have := Tr.put_eq k (by omega) m ⟨lib, (setC (content m lib) (mbS m lib x t)).1, t⟩
        simp only at this
        rw [this]; rfl
      · rw [if_pos (by simp [h0]), if_neg h0]
  unfold setMS at tail
  by_cases h1 : t < 1
  · rw [if_pos (by simpa using h1), tail true (by simp [h1])]
  · rw [if_neg (by simpa using h1), tail _ (by simp [h1])]
def setS (m : Mp) (n : Tx) (t : Int) : Nat × Mp := if (memS n).2.2 then setMS m (memS n).1 (memS n).2.1 t else Tr.putS m ⟨n, content m n, t⟩
theorem set_eq (k : Nat) (hk : 4000 ≤ k) (m : Mp) (hb : Bound m) (n : Tx) (hn : n.length ≤ 1000) (t : Int) : stat_Set_m0.f k m n t = some (setS m n t) := by
  unfold stat_Set_m0.f setS
  rw [mem_eq k n hn (by omega), Option.bind_some]
  cases (memS n).2.2 with
  | false =>
    rw [if_pos (by decide), if_neg (by decide), Tr.touch_eq k (by omega)]; rfl
  | true =>
    rw [if_neg (by decide), if_pos rfl, setM_eq k hk m hb _ _ (mem_len n hn).2]; rfl
theorem setS_cases (m : Mp) (n : Tx) (t : Int) : (∃ f : Fl, setS m n t = Tr.putS m f ∧ f.f_Time = t ∧ f.f_Name = if (memS n).2.2 then (memS n).1 else n) ∨ ((setS m n t).2 = m ∧ (setS m n t).1 ≠ 0) := by
  unfold setS
  cases (memS n).2.2 with
  | false => exact .inl ⟨_, rfl, rfl, rfl⟩
  | true =>
    simp only [if_true]
    unfold setMS
    split
    · exact .inr ⟨rfl, Nat.one_ne_zero⟩
    · split
      · exact .inl ⟨_, rfl, rfl, rfl⟩
      · exact .inr ⟨rfl, by assumption⟩
theorem Bound.setS {m : Mp} (h : Bound m) (n : Tx) (t : Int) : Bound (setS m n t).2 := by
  rcases setS_cases m n t with ⟨f, e, _⟩ | ⟨e, _⟩
  · rw [e]; exact h.putS f
  · rw [e]; exact h
end Go.Proofs.YtcblgpcgdihcbaaGreatDoor.St
