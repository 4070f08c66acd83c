/- A part of the proof of a given law: NLTy. Own work, printed in part by a program of mine. -/
import Derived.Test.YtnbnfjgedinlbabK11AmM6
import Derived.Test.YtnbnfjgedinlbabProg
namespace Go.Proofs.Ytnbnfjgedinlbab
open Go Go.AM
set_option linter.unusedVariables false
set_option linter.unusedSimpArgs false
set_option maxRecDepth 100000
structure T_runtime_boundsError where
  f_x : Int
  f_y : Int
  f_signed : Bool
  f_code : Int
  deriving Inhabited
structure T_runtime_errorAddressString where
  f_msg : List UInt8
  f_addr : Int
  deriving Inhabited
def UnT : Nat → Type := fun n => match n with | 0 => T_runtime_boundsError | 1 => T_runtime_errorAddressString | _ + 2 => Unit
def UnB : Nat → Ty := fun n => match n with | 0 => (.pair (.int .i64) (.pair (.int .i64) (.pair .bool (.pair (.int .u8) .unit)))) | 1 => (.pair .str (.pair (.int .u64) .unit)) | _ + 2 => .unit
def UnOut : (n : Nat) → UnT n → (UnB n).den UnT := fun n => match n with | 0 => fun x => (x.f_x, x.f_y, x.f_signed, x.f_code, ()) | 1 => fun x => (x.f_msg, x.f_addr, ()) | _ + 2 => fun _ => ()
def UnInn : (n : Nat) → (UnB n).den UnT → UnT n := fun n => match n with | 0 => fun (x : Int × Int × Bool × Int × Unit) => (T_runtime_boundsError.mk x.1 x.2.1 x.2.2.1 x.2.2.2.1 : T_runtime_boundsError) | 1 => fun (x : (List UInt8) × Int × Unit) => (T_runtime_errorAddressString.mk x.1 x.2.1 : T_runtime_errorAddressString) | _ + 2 => fun _ => ()
def UnW : Nat → Nat := fun n => match n with | 0 => 4 | 1 => 2 | _ + 2 => 0
def UnF : Nat → Bool := fun n => match n with | 0 => true | 1 => true | _ + 2 => true
theorem un_out_inn : ∀ n x, UnOut n (UnInn n x) = x := by
  intro n
  match n with
  | 0 => exact fun _ => rfl
  | 1 => exact fun _ => rfl
  | _ + 2 => exact fun _ => rfl
theorem un_inn_out : ∀ n x, UnInn n (UnOut n x) = x := by
  intro n
  match n with
  | 0 => exact fun x => by cases x; rfl
  | 1 => exact fun x => by cases x; rfl
  | _ + 2 => exact fun _ => rfl
theorem un_wd : ∀ n, (UnB n).width UnW = UnW n := by
  intro n
  match n with
  | 0 => rfl
  | 1 => rfl
  | _ + 2 => rfl
theorem un_fl : ∀ n, UnF n = true → (UnB n).flat UnF = true := by
  intro n
  match n with
  | 0 => exact fun h => by first | rfl | cases h
  | 1 => exact fun h => by first | rfl | cases h
  | _ + 2 => exact fun _ => rfl
def Un : Univ where
  T := UnT
  body := UnB
  out := UnOut
  inn := UnInn
  out_inn := un_out_inn
  inn_out := un_inn_out
  wd := UnW
  wd_ok := un_wd
  fl := UnF
  fl_ok := un_fl
theorem mixed : Try.prog.follows .mixedOrders = true := by kernel_rfl
theorem hb_4 : HasBody Try.prog 4 := ⟨⟨_, Try.func4, by kernel_rfl, rfl⟩⟩
theorem hb_5 : HasBody Try.prog 5 := ⟨⟨_, Try.func5, by kernel_rfl, rfl⟩⟩
theorem hb_6 : HasBody Try.prog 6 := ⟨⟨_, Try.func6, by kernel_rfl, rfl⟩⟩
theorem hb_7 : HasBody Try.prog 7 := ⟨⟨_, Try.func7, by kernel_rfl, rfl⟩⟩
theorem hb_8 : HasBody Try.prog 8 := ⟨⟨_, Try.func8, by kernel_rfl, rfl⟩⟩
theorem hb_9 : HasBody Try.prog 9 := ⟨⟨_, Try.func9, by kernel_rfl, rfl⟩⟩
theorem hb_10 : HasBody Try.prog 10 := ⟨⟨_, Try.func10, by kernel_rfl, rfl⟩⟩
theorem hb_11 : HasBody Try.prog 11 := ⟨⟨_, Try.func11, by kernel_rfl, rfl⟩⟩
theorem hb_12 : HasBody Try.prog 12 := ⟨⟨_, Try.func12, by kernel_rfl, rfl⟩⟩
theorem hb_13 : HasBody Try.prog 13 := ⟨⟨_, Try.func13, by kernel_rfl, rfl⟩⟩
theorem hb_14 : HasBody Try.prog 14 := ⟨⟨_, Try.func14, by kernel_rfl, rfl⟩⟩
theorem hb_15 : HasBody Try.prog 15 := ⟨⟨_, Try.func15, by kernel_rfl, rfl⟩⟩
theorem hb_16 : HasBody Try.prog 16 := ⟨⟨_, Try.func16, by kernel_rfl, rfl⟩⟩
theorem hb_17 : HasBody Try.prog 17 := ⟨⟨_, Try.func17, by kernel_rfl, rfl⟩⟩
theorem hb_18 : HasBody Try.prog 18 := ⟨⟨_, Try.func18, by kernel_rfl, rfl⟩⟩
theorem hb_19 : HasBody Try.prog 19 := ⟨⟨_, Try.func19, by kernel_rfl, rfl⟩⟩
theorem hb_20 : HasBody Try.prog 20 := ⟨⟨_, Try.func20, by kernel_rfl, rfl⟩⟩
theorem hb_21 : HasBody Try.prog 21 := ⟨⟨_, Try.func21, by kernel_rfl, rfl⟩⟩
theorem hb_22 : HasBody Try.prog 22 := ⟨⟨_, Try.func22, by kernel_rfl, rfl⟩⟩
theorem hb_23 : HasBody Try.prog 23 := ⟨⟨_, Try.func23, by kernel_rfl, rfl⟩⟩
theorem hb_24 : HasBody Try.prog 24 := ⟨⟨_, Try.func24, by kernel_rfl, rfl⟩⟩
theorem hb_25 : HasBody Try.prog 25 := ⟨⟨_, Try.func25, by kernel_rfl, rfl⟩⟩
theorem hb_26 : HasBody Try.prog 26 := ⟨⟨_, Try.func26, by kernel_rfl, rfl⟩⟩
theorem hb_27 : HasBody Try.prog 27 := ⟨⟨_, Try.func27, by kernel_rfl, rfl⟩⟩
theorem hb_28 : HasBody Try.prog 28 := ⟨⟨_, Try.func28, by kernel_rfl, rfl⟩⟩
theorem hb_29 : HasBody Try.prog 29 := ⟨⟨_, Try.func29, by kernel_rfl, rfl⟩⟩
theorem hb_30 : HasBody Try.prog 30 := ⟨⟨_, Try.func30, by kernel_rfl, rfl⟩⟩
theorem hb_33 : HasBody Try.prog 33 := ⟨⟨_, Try.func33, by kernel_rfl, rfl⟩⟩
theorem hb_34 : HasBody Try.prog 34 := ⟨⟨_, Try.func34, by kernel_rfl, rfl⟩⟩
theorem hb_35 : HasBody Try.prog 35 := ⟨⟨_, Try.func35, by kernel_rfl, rfl⟩⟩
theorem hb_36 : HasBody Try.prog 36 := ⟨⟨_, Try.func36, by kernel_rfl, rfl⟩⟩
theorem hb_37 : HasBody Try.prog 37 := ⟨⟨_, Try.func37, by kernel_rfl, rfl⟩⟩
theorem hb_38 : HasBody Try.prog 38 := ⟨⟨_, Try.func38, by kernel_rfl, rfl⟩⟩
theorem hb_39 : HasBody Try.prog 39 := ⟨⟨_, Try.func39, by kernel_rfl, rfl⟩⟩
theorem hb_40 : HasBody Try.prog 40 := ⟨⟨_, Try.func40, by kernel_rfl, rfl⟩⟩
theorem hb_52 : HasBody Try.prog 52 := ⟨⟨_, Try.func52, by kernel_rfl, rfl⟩⟩
theorem hb_53 : HasBody Try.prog 53 := ⟨⟨_, Try.func53, by kernel_rfl, rfl⟩⟩
theorem ty_9 : TyOk Try.prog Un 9 .str := tyOk_mk (c := 1) (by kernel_rfl) rfl Try.underlying9 rfl
theorem sl_22 : SlOk Try.prog Un 22 9 .str := ⟨Try.underlying22, ty_9⟩
theorem row_22 : RowOk Try.prog Un 22 9 .str 16 := rowOk_mk (c := 1) sl_22 (by kernel_rfl) rfl (by decide)
theorem ty_22 : TyOk Try.prog Un 22 (.list .str) := tyOk_mk (c := 1) (by kernel_rfl) rfl Try.underlying22 rfl
theorem sl_44 : SlOk Try.prog Un 44 22 (.list .str) := ⟨Try.underlying44, ty_22⟩
theorem row_44 : RowOk Try.prog Un 44 22 (.list .str) 24 := rowOk_mk (c := 1) sl_44 (by kernel_rfl) rfl (by decide)
theorem z0_9 : ZeroOk Try.prog Un 9 .str ([] : List UInt8) := zeroOk_str (by kernel_rfl)
theorem mvU : type_of% (@mv Un) := @mv Un
theorem cvR : type_of% (@Conv.refl Un) := @Conv.refl Un
theorem rgU : type_of% (@WpC.reg Un) := @WpC.reg Un
theorem caV : type_of% (@sok_callV Un) := @sok_callV Un
theorem cmU : type_of% (@sok_cmp Un) := @sok_cmp Un
theorem cvK : type_of% (@Conv.keep Un) := @Conv.keep Un
theorem mvA : type_of% (@mva Un) := @mva Un
theorem pkT : type_of% (@sok_pickT Un) := @sok_pickT Un
theorem pkF : type_of% (@sok_pickF Un) := @sok_pickF Un
theorem eqU : type_of% (@sok_eqPN Un) := @sok_eqPN Un
theorem moU : type_of% (@sok_move Un) := @sok_move Un
theorem sqJ : type_of% (@WpC.seqJ Un) := @WpC.seqJ Un
theorem cdU : type_of% (@WpC.cond Un) := @WpC.cond Un
theorem exU : type_of% (@sok_extract Un) := @sok_extract Un
theorem ldB : type_of% (@sok_loadB Un) := @sok_loadB Un
theorem cvT : type_of% (@Conv.trans Un) := @Conv.trans Un
theorem fdB : type_of% (@sok_fieldB Un) := @sok_fieldB Un
theorem neU : type_of% (@sok_neB Un) := @sok_neB Un
theorem nlU : type_of% (@sok_nilCheck Un) := @sok_nilCheck Un
theorem skU : type_of% (@sok_skip Un) := @sok_skip Un
theorem tnU : type_of% (@thenQ_normal Un) := @thenQ_normal Un
end Go.Proofs.Ytnbnfjgedinlbab
