/- A part of the proof of a given law: ESTy. Own work, printed in part by a program of mine. -/
import Derived.Test.YtnbnfjgedinlbaaDoorK4AmM1
import Derived.Test.YtnbnfjgedinlbaaDoorProg
namespace Go.Proofs.YtnbnfjgedinlbaaDoor
open Go Go.AM
set_option linter.unusedVariables false
set_option linter.unusedSimpArgs false
set_option maxRecDepth 100000
structure T_runtime_boundsError where
  f_x : Int
  f_y : Int
  f_signed : Bool
  f_code : Int
  deriving Inhabited
structure T_runtime_errorAddressString where
  f_msg : List UInt8
  f_addr : Int
  deriving Inhabited
structure T_env_Var where
  f_Name : List UInt8
  f_Words : List (List UInt8)
  f_Level : Int
  f_Hidden : Bool
  deriving Inhabited
structure T_millwrightlaw14_Act where
  f_Kind : Int
  f_Var : T_env_Var
  deriving Inhabited
structure T_utf8_acceptRange where
  f_lo : Int
  f_hi : Int
  deriving Inhabited
structure T_reflectlite_ValueError where
  f_Method : List UInt8
  f_Kind : Int
  deriving Inhabited
structure T_errors_errorString where
  f_s : List UInt8
  deriving Inhabited
structure T_abi_UncommonType where
  f_PkgPath : Int
  f_Mcount : Int
  f_Xcount : Int
  f_Moff : Int
  f_blank4 : Int
  deriving Inhabited
structure T_abi_Method where
  f_Name : Int
  f_Mtyp : Int
  f_Ifn : Int
  f_Tfn : Int
  deriving Inhabited
def UnT : Nat → Type := fun n => match n with | 0 => T_runtime_boundsError | 1 => T_runtime_errorAddressString | 2 => Unit | 3 => T_env_Var | 4 => T_millwrightlaw14_Act | 5 => Unit | 6 => Unit | 7 => Unit | 8 => T_utf8_acceptRange | 9 => Unit | 10 => Unit | 11 => Unit | 12 => T_reflectlite_ValueError | 13 => T_errors_errorString | 14 => T_abi_UncommonType | 15 => T_abi_Method | _ + 16 => Unit
def UnB : Nat → Ty := fun n => match n with | 0 => (.pair (.int .i64) (.pair (.int .i64) (.pair .bool (.pair (.int .u8) .unit)))) | 1 => (.pair .str (.pair (.int .u64) .unit)) | 2 => .unit | 3 => (.pair .str (.pair (.list .str) (.pair (.int .i64) (.pair .bool .unit)))) | 4 => (.pair (.int .i64) (.pair (.named 3) .unit)) | 5 => .unit | 6 => .unit | 7 => .unit | 8 => (.pair (.int .u8) (.pair (.int .u8) .unit)) | 9 => .unit | 10 => .unit | 11 => .unit | 12 => (.pair .str (.pair (.int .u8) .unit)) | 13 => (.pair .str .unit) | 14 => (.pair (.int .i32) (.pair (.int .u16) (.pair (.int .u16) (.pair (.int .u32) (.pair (.int .u32) .unit))))) | 15 => (.pair (.int .i32) (.pair (.int .i32) (.pair (.int .i32) (.pair (.int .i32) .unit)))) | _ + 16 => .unit
def UnOut : (n : Nat) → UnT n → (UnB n).den UnT := fun n => match n with | 0 => fun x => (x.f_x, x.f_y, x.f_signed, x.f_code, ()) | 1 => fun x => (x.f_msg, x.f_addr, ()) | 2 => fun _ => () | 3 => fun x => (x.f_Name, x.f_Words, x.f_Level, x.f_Hidden, ()) | 4 => fun x => (x.f_Kind, x.f_Var, ()) | 5 => fun _ => () | 6 => fun _ => () | 7 => fun _ => () | 8 => fun x => (x.f_lo, x.f_hi, ()) | 9 => fun _ => () | 10 => fun _ => () | 11 => fun _ => () | 12 => fun x => (x.f_Method, x.f_Kind, ()) | 13 => fun x => (x.f_s, ()) | 14 => fun x => (x.f_PkgPath, x.f_Mcount, x.f_Xcount, x.f_Moff, x.f_blank4, ()) | 15 => fun x => (x.f_Name, x.f_Mtyp, x.f_Ifn, x.f_Tfn, ()) | _ + 16 => fun _ => ()
def UnInn : (n : Nat) → (UnB n).den UnT → UnT n := fun n => match n with | 0 => fun (x : Int × Int × Bool × Int × Unit) => (T_runtime_boundsError.mk x.1 x.2.1 x.2.2.1 x.2.2.2.1 : T_runtime_boundsError) | 1 => fun (x : (List UInt8) × Int × Unit) => (T_runtime_errorAddressString.mk x.1 x.2.1 : T_runtime_errorAddressString) | 2 => fun _ => () | 3 => fun (x : (List UInt8) × (List (List UInt8)) × Int × Bool × Unit) => (T_env_Var.mk x.1 x.2.1 x.2.2.1 x.2.2.2.1 : T_env_Var) | 4 => fun (x : Int × T_env_Var × Unit) => (T_millwrightlaw14_Act.mk x.1 x.2.1 : T_millwrightlaw14_Act) | 5 => fun _ => () | 6 => fun _ => () | 7 => fun _ => () | 8 => fun (x : Int × Int × Unit) => (T_utf8_acceptRange.mk x.1 x.2.1 : T_utf8_acceptRange) | 9 => fun _ => () | 10 => fun _ => () | 11 => fun _ => () | 12 => fun (x : (List UInt8) × Int × Unit) => (T_reflectlite_ValueError.mk x.1 x.2.1 : T_reflectlite_ValueError) | 13 => fun (x : (List UInt8) × Unit) => (T_errors_errorString.mk x.1 : T_errors_errorString) | 14 => fun (x : Int × Int × Int × Int × Int × Unit) => (T_abi_UncommonType.mk x.1 x.2.1 x.2.2.1 x.2.2.2.1 x.2.2.2.2.1 : T_abi_UncommonType) | 15 => fun (x : Int × Int × Int × Int × Unit) => (T_abi_Method.mk x.1 x.2.1 x.2.2.1 x.2.2.2.1 : T_abi_Method) | _ + 16 => fun _ => ()
def UnW : Nat → Nat := fun n => match n with | 0 => 4 | 1 => 2 | 2 => 0 | 3 => 4 | 4 => 5 | 5 => 0 | 6 => 0 | 7 => 0 | 8 => 2 | 9 => 0 | 10 => 0 | 11 => 0 | 12 => 2 | 13 => 1 | 14 => 5 | 15 => 4 | _ + 16 => 0
def UnF : Nat → Bool := fun n => match n with | 0 => true | 1 => true | 2 => true | 3 => false | 4 => false | 5 => true | 6 => true | 7 => true | 8 => true | 9 => true | 10 => true | 11 => true | 12 => true | 13 => true | 14 => true | 15 => true | _ + 16 => true
theorem un_out_inn : ∀ n x, UnOut n (UnInn n x) = x := by
  intro n
  match n with
  | 0 => exact fun _ => rfl
  | 1 => exact fun _ => rfl
  | 2 => exact fun _ => rfl
  | 3 => exact fun _ => rfl
  | 4 => exact fun _ => rfl
  | 5 => exact fun _ => rfl
  | 6 => exact fun _ => rfl
  | 7 => exact fun _ => rfl
  | 8 => exact fun _ => rfl
  | 9 => exact fun _ => rfl
  | 10 => exact fun _ => rfl
  | 11 => exact fun _ => rfl
  | 12 => exact fun _ => rfl
  | 13 => exact fun _ => rfl
  | 14 => exact fun _ => rfl
  | 15 => exact fun _ => rfl
  | _ + 16 => exact fun _ => rfl
theorem un_inn_out : ∀ n x, UnInn n (UnOut n x) = x := by
  intro n
  match n with
  | 0 => exact fun x => by cases x; rfl
  | 1 => exact fun x => by cases x; rfl
  | 2 => exact fun _ => rfl
  | 3 => exact fun x => by cases x; rfl
  | 4 => exact fun x => by cases x; rfl
  | 5 => exact fun _ => rfl
  | 6 => exact fun _ => rfl
  | 7 => exact fun _ => rfl
  | 8 => exact fun x => by cases x; rfl
  | 9 => exact fun _ => rfl
  | 10 => exact fun _ => rfl
  | 11 => exact fun _ => rfl
  | 12 => exact fun x => by cases x; rfl
  | 13 => exact fun x => by cases x; rfl
  | 14 => exact fun x => by cases x; rfl
  | 15 => exact fun x => by cases x; rfl
  | _ + 16 => exact fun _ => rfl
theorem un_wd : ∀ n, (UnB n).width UnW = UnW n := by
  intro n
  match n with
  | 0 => rfl
  | 1 => rfl
  | 2 => rfl
  | 3 => rfl
  | 4 => rfl
  | 5 => rfl
  | 6 => rfl
  | 7 => rfl
  | 8 => rfl
  | 9 => rfl
  | 10 => rfl
  | 11 => rfl
  | 12 => rfl
  | 13 => rfl
  | 14 => rfl
  | 15 => rfl
  | _ + 16 => rfl
theorem un_fl : ∀ n, UnF n = true → (UnB n).flat UnF = true := by
  intro n
  match n with
  | 0 => exact fun h => by first | rfl | cases h
  | 1 => exact fun h => by first | rfl | cases h
  | 2 => exact fun h => by first | rfl | cases h
  | 3 => exact fun h => by first | rfl | cases h
  | 4 => exact fun h => by first | rfl | cases h
  | 5 => exact fun h => by first | rfl | cases h
  | 6 => exact fun h => by first | rfl | cases h
  | 7 => exact fun h => by first | rfl | cases h
  | 8 => exact fun h => by first | rfl | cases h
  | 9 => exact fun h => by first | rfl | cases h
  | 10 => exact fun h => by first | rfl | cases h
  | 11 => exact fun h => by first | rfl | cases h
  | 12 => exact fun h => by first | rfl | cases h
  | 13 => exact fun h => by first | rfl | cases h
  | 14 => exact fun h => by first | rfl | cases h
  | 15 => exact fun h => by first | rfl | cases h
  | _ + 16 => exact fun _ => rfl
def Un : Univ where
  T := UnT
  body := UnB
  out := UnOut
  inn := UnInn
  out_inn := un_out_inn
  inn_out := un_inn_out
  wd := UnW
  wd_ok := un_wd
  fl := UnF
  fl_ok := un_fl
theorem mixed : Tryd.prog.follows .mixedOrders = true := by kernel_rfl
theorem ty_9 : TyOk Tryd.prog Un 9 .str := tyOk_mk (c := 1) (by kernel_rfl) rfl Tryd.underlying9 rfl
theorem fd_24_0 : FdOk Tryd.prog Un 24 0 0 9 .str := ⟨⟨_, _, Tryd.underlying24, rfl, rfl, rfl⟩, ty_9⟩
theorem ty_22 : TyOk Tryd.prog Un 22 (.list .str) := tyOk_mk (c := 1) (by kernel_rfl) rfl Tryd.underlying22 rfl
theorem fd_24_1 : FdOk Tryd.prog Un 24 1 1 22 (.list .str) := ⟨⟨_, _, Tryd.underlying24, rfl, rfl, rfl⟩, ty_22⟩
theorem ty_3 : TyOk Tryd.prog Un 3 (.int .i64) := tyOk_mk (c := 1) (by kernel_rfl) rfl Tryd.underlying3 rfl
theorem fd_24_2 : FdOk Tryd.prog Un 24 2 2 3 (.int .i64) := ⟨⟨_, _, Tryd.underlying24, rfl, rfl, rfl⟩, ty_3⟩
theorem ty_24 : TyOk Tryd.prog Un 24 (.named 3) := tyOk_mk (c := 4) (by kernel_rfl) rfl Tryd.underlying24 rfl
theorem fd_29_1 : FdOk Tryd.prog Un 29 1 1 24 (.named 3) := ⟨⟨_, _, Tryd.underlying29, rfl, rfl, rfl⟩, ty_24⟩
theorem fd_38_0 : FdOk Tryd.prog Un 38 0 0 9 .str := ⟨⟨_, _, Tryd.underlying38, rfl, rfl, rfl⟩, ty_9⟩
theorem fd_38_1 : FdOk Tryd.prog Un 38 1 1 22 (.list .str) := ⟨⟨_, _, Tryd.underlying38, rfl, rfl, rfl⟩, ty_22⟩
theorem fd_38_2 : FdOk Tryd.prog Un 38 2 2 3 (.int .i64) := ⟨⟨_, _, Tryd.underlying38, rfl, rfl, rfl⟩, ty_3⟩
theorem ty_4 : TyOk Tryd.prog Un 4 .bool := tyOk_mk (c := 1) (by kernel_rfl) rfl Tryd.underlying4 rfl
theorem fd_38_3 : FdOk Tryd.prog Un 38 3 3 4 .bool := ⟨⟨_, _, Tryd.underlying38, rfl, rfl, rfl⟩, ty_4⟩
theorem ty1_54 : TyOk Tryd.prog Un 54 .bool := tyOk_mk (c := 1) (by kernel_rfl) rfl Tryd.underlying54 rfl
theorem fd_56_0 : FdOk Tryd.prog Un 56 0 0 54 .bool := ⟨⟨_, _, Tryd.underlying56, rfl, rfl, rfl⟩, ty1_54⟩
theorem hb_6 : HasBody Tryd.prog 6 := ⟨⟨_, Tryd.func6, by kernel_rfl, rfl⟩⟩
theorem hb_7 : HasBody Tryd.prog 7 := ⟨⟨_, Tryd.func7, by kernel_rfl, rfl⟩⟩
theorem hb_8 : HasBody Tryd.prog 8 := ⟨⟨_, Tryd.func8, by kernel_rfl, rfl⟩⟩
theorem hb_9 : HasBody Tryd.prog 9 := ⟨⟨_, Tryd.func9, by kernel_rfl, rfl⟩⟩
theorem hb_10 : HasBody Tryd.prog 10 := ⟨⟨_, Tryd.func10, by kernel_rfl, rfl⟩⟩
theorem hb_11 : HasBody Tryd.prog 11 := ⟨⟨_, Tryd.func11, by kernel_rfl, rfl⟩⟩
theorem hb_12 : HasBody Tryd.prog 12 := ⟨⟨_, Tryd.func12, by kernel_rfl, rfl⟩⟩
theorem hb_23 : HasBody Tryd.prog 23 := ⟨⟨_, Tryd.func23, by kernel_rfl, rfl⟩⟩
theorem hb_28 : HasBody Tryd.prog 28 := ⟨⟨_, Tryd.func28, by kernel_rfl, rfl⟩⟩
theorem hb_29 : HasBody Tryd.prog 29 := ⟨⟨_, Tryd.func29, by kernel_rfl, rfl⟩⟩
theorem hb_30 : HasBody Tryd.prog 30 := ⟨⟨_, Tryd.func30, by kernel_rfl, rfl⟩⟩
theorem hb_31 : HasBody Tryd.prog 31 := ⟨⟨_, Tryd.func31, by kernel_rfl, rfl⟩⟩
theorem hb_32 : HasBody Tryd.prog 32 := ⟨⟨_, Tryd.func32, by kernel_rfl, rfl⟩⟩
theorem hb_33 : HasBody Tryd.prog 33 := ⟨⟨_, Tryd.func33, by kernel_rfl, rfl⟩⟩
theorem hb_40 : HasBody Tryd.prog 40 := ⟨⟨_, Tryd.func40, by kernel_rfl, rfl⟩⟩
theorem hb_41 : HasBody Tryd.prog 41 := ⟨⟨_, Tryd.func41, by kernel_rfl, rfl⟩⟩
theorem hb_42 : HasBody Tryd.prog 42 := ⟨⟨_, Tryd.func42, by kernel_rfl, rfl⟩⟩
theorem hb_43 : HasBody Tryd.prog 43 := ⟨⟨_, Tryd.func43, by kernel_rfl, rfl⟩⟩
theorem lays_24 : lays Tryd.prog 24 = some ([.string ByteArray.empty, .slice none 0 0, .int .i64 0, .bool false], (fun i => ([(0, 1), (1, 1), (2, 1), (3, 1)] : List (Nat × Nat)).toArray[i]?)) := by kernel_rfl
theorem lays_29 : lays Tryd.prog 29 = some ([.int .i64 0, .string ByteArray.empty, .slice none 0 0, .int .i64 0, .bool false], (fun i => ([(0, 1), (1, 4)] : List (Nat × Nat)).toArray[i]?)) := by kernel_rfl
theorem lays_56 : lays Tryd.prog 56 = some ([.map none], (fun i => ([(0, 1)] : List (Nat × Nat)).toArray[i]?)) := by kernel_rfl
theorem map_54 : MapOk Tryd.prog 54 9 24 := ⟨Tryd.underlying54, Tryd.underlying9⟩
theorem sl_22 : SlOk Tryd.prog Un 22 9 .str := ⟨Tryd.underlying22, ty_9⟩
theorem row_22 : RowOk Tryd.prog Un 22 9 .str 16 := rowOk_mk (c := 1) sl_22 (by kernel_rfl) rfl (by decide)
theorem ty_29 : TyOk Tryd.prog Un 29 (.named 4) := tyOk_mk (c := 5) (by kernel_rfl) rfl Tryd.underlying29 rfl
theorem sl_25 : SlOk Tryd.prog Un 25 29 (.named 4) := ⟨Tryd.underlying25, ty_29⟩
theorem row_25 : RowOk Tryd.prog Un 25 29 (.named 4) 64 := rowOk_mk (c := 5) sl_25 (by kernel_rfl) rfl (by decide)
theorem ty_33 : TyOk Tryd.prog Un 33 .err := tyOk_mk (c := 1) (by kernel_rfl) rfl Tryd.underlying33 rfl
theorem zv_24 : ZeroOk Tryd.prog Un 24 (.named 3) ((T_env_Var.mk [] [] 0 false) : T_env_Var) := zeroOk_mk (v := (.agg #[.string ByteArray.empty, .slice none 0 0, .int .i64 0, .bool false])) (by kernel_rfl) fun _ _ _ => ⟨_, (.named _ _ (.pair rd_str0 (.pair (.lnil _) (.pair (.int _ _) (.pair (.bool _) .unit))))), rfl⟩
end Go.Proofs.YtnbnfjgedinlbaaDoor
