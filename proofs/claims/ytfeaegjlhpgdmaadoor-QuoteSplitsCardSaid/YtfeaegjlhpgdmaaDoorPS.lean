/- A part of the proof of a given law: PS. Own work, printed in part by a program of mine. -/
import Derived.Test.YtfeaegjlhpgdmaaDoorAmR
import Derived.Test.YtfeaegjlhpgdmaaDoorTrydShelf
namespace Go.Proofs.YtfeaegjlhpgdmaaDoor
open Go Go.AM
set_option linter.unusedVariables false

/-- What must be known of the package's variables: bytealg.MaxLen holds a number. -/
structure GOk (O : Out) : Prop where
  maxLen : ∃ m, O.gl 18 = some (.int .i64 m)

def lawOut (m : Int) : Out := { ev := fun _ => .iface 0 (.bool false), ev_one := fun _ => rfl, ev_if := fun _ => ⟨_, _, rfl⟩, gl := fun g => if g = 18 then some (.int .i64 m) else none }

theorem law_out {W : World} {l : List (String × DataW Unit)} (h : W.ShapedOpen Tryd.prog) (_ : laidMetH Tryd.prog l W) : ∃ O : Out, GOk O ∧ O.Glob (fun b => b < W.heap.size) W := by
  obtain ⟨m, hm⟩ := Tryd.laysM155.s1_3 W h
  refine ⟨lawOut m, ⟨m, rfl⟩, fun g v hg => ?_, fun b h => False.elim h⟩
  simp only [lawOut] at hg
  split at hg
  · rename_i e; subst e
    cases hg
    refine ⟨?_, hm⟩
    apply Classical.byContradiction
    intro hc
    simp only [World.cell?] at hm
    have : W.heap[18]? = none := Array.getElem?_eq_none (by omega)
    rw [show Tryd.laysM155_ren.g 1 = 18 from rfl, this] at hm
    cases hm
  · cases hg

def pIndexByte.f (k : Nat) (s : List UInt8) (c : Int) : Option Int := some (Lib.indexByte s c.toNat.toUInt8)

theorem pIndexByte.ok {U : Univ} (O : Out) (hO : GOk O) (k : Nat) (s : List UInt8) (c : Int) (out : Int) (h : pIndexByte.f k s c = some out) :
    COk U O Tryd.prog 78 { ar := [.p .str s, .p (.int .u8) c], r := .p (.int .i64) out } := by
  intro S ι w vs hlt hgl has hbs hown
  simp only [VVs, VV.str_iff, VV.int_iff] at has
  obtain ⟨u0, us0, rfl, ⟨b0, rfl, rfl⟩, u1, us1, rfl, rfl, rfl⟩ := has
  cases h
  refine (Tryd.stringslite_IndexByte b0 c w).mono fun e w' ⟨he, hw⟩ => ?_
  subst hw
  exact ⟨_, S, ι, he, Nx.refl _ rfl rfl hlt, VV.int_iff.2 rfl⟩

def pReplaceAll.f (k : Nat) (s old new : List UInt8) : Option (List UInt8) :=
  if s.length < 4294967281 ∧ 1 ≤ old.length ∧ s.length + Lib.countB ⟨s.toArray⟩ ⟨old.toArray⟩ * new.length ≤ 140737488355328 then some (Lib.replaceAll s old new) else none

theorem ba_size (b : ByteArray) : b.data.toList.length = b.size := by rw [Array.length_toList]; rfl

theorem pReplaceAll.ok {U : Univ} (O : Out) (hO : GOk O) (k : Nat) (s old new : List UInt8) (out : List UInt8) (h : pReplaceAll.f k s old new = some out) :
    COk U O Tryd.prog 60 { ar := [.p .str s, .p .str old, .p .str new], r := .p .str out } := by
  intro S ι w vs hlt hgl has hbs hown
  simp only [VVs, VV.str_iff] at has
  obtain ⟨u0, us0, rfl, ⟨b0, rfl, rfl⟩, u1, us1, rfl, ⟨b1, rfl, rfl⟩, u2, us2, rfl, ⟨b2, rfl, rfl⟩, rfl⟩ := has
  unfold pReplaceAll.f at h
  split at h
  · rename_i hc
    cases h
    obtain ⟨m, hm⟩ := hO.maxLen
    simp only [ba_size] at hc
    refine (Tryd.strings_ReplaceAll b0 b1 b2 m w hc.1 (hgl.1 _ _ hm).2 hc.2.1 hc.2.2).mono fun e w' ⟨he, hw⟩ => ?_
    exact ⟨_, S, ι, he, Nx.ofBelow hw rfl rfl hlt, VV.str_iff.2 ⟨_, rfl, rfl⟩⟩
  · cases h
end Go.Proofs.YtfeaegjlhpgdmaaDoor
