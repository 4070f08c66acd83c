/- A part of the proof of a given law: PS. Own work, printed in part by a program of mine. -/
import Derived.Test.YtfeaegjlhpgdmaaAmO
import Derived.Test.YtfeaegjlhpgdmaaTryShelf
namespace Go.Proofs.Ytfeaegjlhpgdmaa
open Go Go.AM
set_option linter.unusedVariables false

def pIndex.f (k : Nat) (s sep : List UInt8) : Option Int := match sep with | [c] => some (Lib.indexByte s c) | _ => none

theorem pIndex.ok {U : Univ} (O : Out) (k : Nat) (s sep : List UInt8) (out : Int) (h : pIndex.f k s sep = some out) :
    COk U O Try.prog 53 { ar := [.p .str s, .p .str sep], r := .p (.int .i64) out } := by
  intro S ι w vs hlt has hbs hown
  simp only [VVs, VV.str_iff] at has
  obtain ⟨u0, us0, rfl, ⟨b0, rfl, rfl⟩, u1, us1, rfl, ⟨b1, rfl, rfl⟩, rfl⟩ := has
  unfold pIndex.f at h
  split at h
  · rename_i c hc
    cases h
    obtain ⟨⟨d⟩⟩ := b1
    subst hc
    refine (Try.stringslite_Index_one b0 c w).mono fun e w' ⟨he, hw⟩ => ?_
    subst hw
    exact ⟨_, S, ι, he, Nx.refl _ rfl rfl hlt, VV.int_iff.2 rfl⟩
  · cases h

def pDead2.f (k : Nat) (s sep : List UInt8) : Option Int := none
theorem pDead2.ok {U : Univ} (O : Out) (n : Nat) (k : Nat) (s sep : List UInt8) (out : Int) (h : pDead2.f k s sep = some out) :
    COk U O Try.prog n { ar := [.p .str s, .p .str sep], r := .p (.int .i64) out } := by cases h
theorem pLRK.ok {U : Univ} (O : Out) (k : Nat) (s sep : List UInt8) (out : Int) (h : pDead2.f k s sep = some out) :
    COk U O Try.prog 47 { ar := [.p .str s, .p .str sep], r := .p (.int .i64) out } := by cases h
end Go.Proofs.Ytfeaegjlhpgdmaa
