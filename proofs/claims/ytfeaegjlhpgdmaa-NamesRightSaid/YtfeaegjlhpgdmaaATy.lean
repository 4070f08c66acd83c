/- A part of the proof of a given law: ATy. Own work, printed in part by a program of mine. -/
import Derived.Test.YtfeaegjlhpgdmaaAmO
import Derived.Test.YtfeaegjlhpgdmaaProg
namespace Go.Proofs.Ytfeaegjlhpgdmaa
open Go Go.AM
set_option linter.unusedVariables false
set_option maxRecDepth 100000
structure T_runtime_boundsError where
  f_x : Int
  f_y : Int
  f_signed : Bool
  f_code : Int
  deriving Inhabited
structure T_runtime_errorAddressString where
  f_msg : List UInt8
  f_addr : Int
  deriving Inhabited
def UnT : Nat → Type := fun n => match n with | 0 => T_runtime_boundsError | 1 => T_runtime_errorAddressString | _ + 2 => Unit
def UnB : Nat → Ty := fun n => match n with | 0 => (.pair (.int .i64) (.pair (.int .i64) (.pair .bool (.pair (.int .u8) .unit)))) | 1 => (.pair .str (.pair (.int .u64) .unit)) | _ + 2 => .unit
def UnOut : (n : Nat) → UnT n → (UnB n).den UnT := fun n => match n with | 0 => fun x => (x.f_x, x.f_y, x.f_signed, x.f_code, ()) | 1 => fun x => (x.f_msg, x.f_addr, ()) | _ + 2 => fun _ => ()
def UnInn : (n : Nat) → (UnB n).den UnT → UnT n := fun n => match n with | 0 => fun (x : Int × Int × Bool × Int × Unit) => (T_runtime_boundsError.mk x.1 x.2.1 x.2.2.1 x.2.2.2.1 : T_runtime_boundsError) | 1 => fun (x : (List UInt8) × Int × Unit) => (T_runtime_errorAddressString.mk x.1 x.2.1 : T_runtime_errorAddressString) | _ + 2 => fun _ => ()
def UnW : Nat → Nat := fun n => match n with | 0 => 4 | 1 => 2 | _ + 2 => 0
def UnF : Nat → Bool := fun n => match n with | 0 => true | 1 => true | _ + 2 => true
theorem un_out_inn : ∀ n x, UnOut n (UnInn n x) = x := by
  intro n
  match n with
  | 0 => exact fun _ => rfl
  | 1 => exact fun _ => rfl
  | _ + 2 => exact fun _ => rfl
theorem un_inn_out : ∀ n x, UnInn n (UnOut n x) = x := by
  intro n
  match n with
  | 0 => exact fun x => by cases x; rfl
  | 1 => exact fun x => by cases x; rfl
  | _ + 2 => exact fun _ => rfl
theorem un_wd : ∀ n, (UnB n).width UnW = UnW n := by
  intro n
  match n with
  | 0 => rfl
  | 1 => rfl
  | _ + 2 => rfl
theorem un_fl : ∀ n, UnF n = true → (UnB n).flat UnF = true := by
  intro n
  match n with
  | 0 => exact fun h => by first | rfl | cases h
  | 1 => exact fun h => by first | rfl | cases h
  | _ + 2 => exact fun _ => rfl
def Un : Univ where
  T := UnT
  body := UnB
  out := UnOut
  inn := UnInn
  out_inn := un_out_inn
  inn_out := un_inn_out
  wd := UnW
  wd_ok := un_wd
  fl := UnF
  fl_ok := un_fl
theorem mixed : Try.prog.follows .mixedOrders = true := by kernel_rfl
theorem hb_7 : HasBody Try.prog 7 := ⟨⟨_, Try.func7, by kernel_rfl, rfl⟩⟩
theorem hb_8 : HasBody Try.prog 8 := ⟨⟨_, Try.func8, by kernel_rfl, rfl⟩⟩
theorem hb_9 : HasBody Try.prog 9 := ⟨⟨_, Try.func9, by kernel_rfl, rfl⟩⟩
theorem hb_10 : HasBody Try.prog 10 := ⟨⟨_, Try.func10, by kernel_rfl, rfl⟩⟩
theorem hb_11 : HasBody Try.prog 11 := ⟨⟨_, Try.func11, by kernel_rfl, rfl⟩⟩
theorem hb_12 : HasBody Try.prog 12 := ⟨⟨_, Try.func12, by kernel_rfl, rfl⟩⟩
theorem hb_13 : HasBody Try.prog 13 := ⟨⟨_, Try.func13, by kernel_rfl, rfl⟩⟩
theorem hb_14 : HasBody Try.prog 14 := ⟨⟨_, Try.func14, by kernel_rfl, rfl⟩⟩
theorem hb_15 : HasBody Try.prog 15 := ⟨⟨_, Try.func15, by kernel_rfl, rfl⟩⟩
theorem hb_16 : HasBody Try.prog 16 := ⟨⟨_, Try.func16, by kernel_rfl, rfl⟩⟩
theorem hb_17 : HasBody Try.prog 17 := ⟨⟨_, Try.func17, by kernel_rfl, rfl⟩⟩
theorem hb_18 : HasBody Try.prog 18 := ⟨⟨_, Try.func18, by kernel_rfl, rfl⟩⟩
theorem hb_31 : HasBody Try.prog 31 := ⟨⟨_, Try.func31, by kernel_rfl, rfl⟩⟩
theorem hb_32 : HasBody Try.prog 32 := ⟨⟨_, Try.func32, by kernel_rfl, rfl⟩⟩
theorem hb_33 : HasBody Try.prog 33 := ⟨⟨_, Try.func33, by kernel_rfl, rfl⟩⟩
theorem hb_34 : HasBody Try.prog 34 := ⟨⟨_, Try.func34, by kernel_rfl, rfl⟩⟩
theorem hb_35 : HasBody Try.prog 35 := ⟨⟨_, Try.func35, by kernel_rfl, rfl⟩⟩
theorem hb_36 : HasBody Try.prog 36 := ⟨⟨_, Try.func36, by kernel_rfl, rfl⟩⟩
theorem hb_43 : HasBody Try.prog 43 := ⟨⟨_, Try.func43, by kernel_rfl, rfl⟩⟩
theorem hb_44 : HasBody Try.prog 44 := ⟨⟨_, Try.func44, by kernel_rfl, rfl⟩⟩
theorem hb_45 : HasBody Try.prog 45 := ⟨⟨_, Try.func45, by kernel_rfl, rfl⟩⟩
theorem hb_46 : HasBody Try.prog 46 := ⟨⟨_, Try.func46, by kernel_rfl, rfl⟩⟩
theorem hb_47 : HasBody Try.prog 47 := ⟨⟨_, Try.func47, by kernel_rfl, rfl⟩⟩
theorem hb_52 : HasBody Try.prog 52 := ⟨⟨_, Try.func52, by kernel_rfl, rfl⟩⟩
theorem hb_53 : HasBody Try.prog 53 := ⟨⟨_, Try.func53, by kernel_rfl, rfl⟩⟩
end Go.Proofs.Ytfeaegjlhpgdmaa
