/- The abstract layer, part P: closing a law: an argument as it came in, and memory behind the call. -/
import Derived.Test.YthmbbdemecljpaaDoorK11AmO
import Derived.Below
import Derived.Carry
import Derived.OpenShut
import Derived.ShutString
import Derived.ChangeOld
namespace Go.AM
open Go.WideShapes Go.ChangeShapes Go.RowKit

def Out.no : Out := { ev := fun _ => .iface 0 (.bool false), ev_one := fun _ => rfl, ev_if := fun _ => ⟨_, _, rfl⟩ }
def noLay : Lay := fun _ => none

section
variable {U : Univ} {O : Out} {P : Program} {H : Type} {enc : TypeId × Value → H} {W : World} {base : Nat} {sp : Nat → Bool} {held : Bool} {tab : TypeId → Option Ty}

/-- An argument is a datum. -/
theorem arg_rd (hT : TabOk P U tab) {T : TypeId} {t : Ty} {v : Value} {d : DataW H} {p : List MemPlace} {r : Reach} {b0 : Nat} (ht : tab T = some t)
    (hv : Value.okWide P W r b0 T v) (hd : DataW.Trod enc P W base sp held T v d p) : ∃ x : t.den U.T, VV U O (There W) noLay W (.p t x) v ∧ Wf U t x := by
  obtain ⟨n, hn⟩ := hd
  obtain ⟨x, hx, hw⟩ := trod_rd (O := O) hT n T t v.cells.toList d p ht hn
  refine ⟨x, ⟨_, hx, ?_⟩, hw⟩
  have hat := hT T t ht
  cases t with
  | bool => obtain ⟨b, rfl⟩ := okWide_bool hat hv; rfl
  | int k => obtain ⟨b, rfl⟩ := okWide_int hat hv; rfl
  | str => obtain ⟨b, rfl⟩ := okWide_string hat hv; rfl
  | list t => obtain ⟨E, hE, _⟩ := hat; obtain ⟨a, l, c, rfl⟩ := okWide_slice hE hv; rfl
  | named n => obtain ⟨fs, hE, _⟩ := hat; obtain ⟨cs, rfl, _⟩ := okWide_struct hE hv; rfl
  | arr n t =>
    obtain ⟨E, hE, _⟩ := hat
    simp only [Value.okWide, hE] at hv
    obtain ⟨cs, rfl, _⟩ := hv
    rfl
  | unit => cases hat
  | err => cases hat
  | pair a b => cases hat
  | ptr t => cases hat

theorem Nx.below {S S' : Nat → Prop} {ι ι' : Lay} {w w' : World} {s : LSpec U} (h : Nx U O s S ι w S' ι' w') (hc : s.cb = []) : Below w.heap.size w w' :=
  ⟨h.os, h.tape, h.output, h.size, fun k hk => h.keep k hk (by rw [hc]; intro n hn; cases hn)⟩

theorem Own.nil {S : Nat → Prop} {ι : Lay} {w : World} : Own S ι w [] := by
  constructor
  all_goals intro n hn
  all_goals cases hn

theorem Out.no_glob {w : World} : Out.no.Glob (There w) w := ⟨fun g v h => (by cases h), fun b h => False.elim h, fun g a h => (by cases h)⟩

/-- A call of which the contract asks no owned block, at a call of the form. -/
theorem COk.at {f : FuncId} {as : List (AVal U)} {b : Bool} (h : COk U O P f { ar := as, r := .p .bool b }) {w : World} {vs : List Value} (hgl : O.Glob (There w) w) (hv : VVs U O (There w) noLay w as vs) :
    Calls P f vs.toArray w fun e w' => e = .returned (.bool b) ∧ Below w.heap.size w w' := by
  refine (h (There w) noLay w vs (fun b hb => hb) hgl hv (fun x hx => by cases hx) Own.nil).mono fun e w' hx => ?_
  obtain ⟨u, S', ι', rfl, hn, hu⟩ := hx
  rw [VV.bool_iff] at hu
  subst hu
  exact ⟨rfl, hn.below rfl⟩
end
end Go.AM
