/- A part of the proof of a given law: EPTy. Own work, printed in part by a program of mine. -/
import Derived.Test.YtnbnfjgedinlbabDoorK12AmM7
import Derived.Test.YtnbnfjgedinlbabDoorProg
namespace Go.Proofs.YtnbnfjgedinlbabDoor
open Go Go.AM
set_option linter.unusedVariables false
set_option linter.unusedSimpArgs false
set_option maxRecDepth 100000
structure T_runtime_boundsError where
  f_x : Int
  f_y : Int
  f_signed : Bool
  f_code : Int
  deriving Inhabited
structure T_runtime_errorAddressString where
  f_msg : List UInt8
  f_addr : Int
  deriving Inhabited
structure T_lex_Piece where
  f_Kind : Int
  f_Text : List UInt8
  f_From : List UInt8
  f_To : List UInt8
  deriving Inhabited
structure T_env_Var where
  f_Name : List UInt8
  f_Words : List (List UInt8)
  f_Level : Int
  f_Hidden : Bool
  deriving Inhabited
structure T_millwrightlaw14_Act where
  f_Kind : Int
  f_Var : T_env_Var
  deriving Inhabited
structure T_millwrightref14_Env where
  f_All : List T_env_Var
  deriving Inhabited
structure T_lex_reader where
  f_s : List UInt8
  f_at : Int
  f_err : Nat
  deriving Inhabited
structure T_utf8_acceptRange where
  f_lo : Int
  f_hi : Int
  deriving Inhabited
structure T_reflectlite_ValueError where
  f_Method : List UInt8
  f_Kind : Int
  deriving Inhabited
structure T_errors_errorString where
  f_s : List UInt8
  deriving Inhabited
structure T_abi_UncommonType where
  f_PkgPath : Int
  f_Mcount : Int
  f_Xcount : Int
  f_Moff : Int
  f_blank4 : Int
  deriving Inhabited
structure T_abi_Method where
  f_Name : Int
  f_Mtyp : Int
  f_Ifn : Int
  f_Tfn : Int
  deriving Inhabited
def UnT : Nat → Type := fun n => match n with | 0 => T_runtime_boundsError | 1 => T_runtime_errorAddressString | 2 => Unit | 3 => T_lex_Piece | 4 => T_millwrightlaw14_Act | 5 => T_env_Var | 6 => T_millwrightref14_Env | 7 => T_lex_reader | 8 => Unit | 9 => Unit | 10 => Unit | 11 => T_utf8_acceptRange | 12 => Unit | 13 => Unit | 14 => Unit | 15 => T_reflectlite_ValueError | 16 => T_errors_errorString | 17 => T_abi_UncommonType | 18 => T_abi_Method | _ + 19 => Unit
def UnB : Nat → Ty := fun n => match n with | 0 => (.pair (.int .i64) (.pair (.int .i64) (.pair .bool (.pair (.int .u8) .unit)))) | 1 => (.pair .str (.pair (.int .u64) .unit)) | 2 => .unit | 3 => (.pair (.int .i64) (.pair .str (.pair .str (.pair .str .unit)))) | 4 => (.pair (.int .i64) (.pair (.named 5) .unit)) | 5 => (.pair .str (.pair (.list .str) (.pair (.int .i64) (.pair .bool .unit)))) | 6 => (.pair (.list (.named 5)) .unit) | 7 => (.pair .str (.pair (.int .i64) (.pair .err .unit))) | 8 => .unit | 9 => .unit | 10 => .unit | 11 => (.pair (.int .u8) (.pair (.int .u8) .unit)) | 12 => .unit | 13 => .unit | 14 => .unit | 15 => (.pair .str (.pair (.int .u8) .unit)) | 16 => (.pair .str .unit) | 17 => (.pair (.int .i32) (.pair (.int .u16) (.pair (.int .u16) (.pair (.int .u32) (.pair (.int .u32) .unit))))) | 18 => (.pair (.int .i32) (.pair (.int .i32) (.pair (.int .i32) (.pair (.int .i32) .unit)))) | _ + 19 => .unit
def UnOut : (n : Nat) → UnT n → (UnB n).den UnT := fun n => match n with | 0 => fun x => (x.f_x, x.f_y, x.f_signed, x.f_code, ()) | 1 => fun x => (x.f_msg, x.f_addr, ()) | 2 => fun _ => () | 3 => fun x => (x.f_Kind, x.f_Text, x.f_From, x.f_To, ()) | 4 => fun x => (x.f_Kind, x.f_Var, ()) | 5 => fun x => (x.f_Name, x.f_Words, x.f_Level, x.f_Hidden, ()) | 6 => fun x => (x.f_All, ()) | 7 => fun x => (x.f_s, x.f_at, x.f_err, ()) | 8 => fun _ => () | 9 => fun _ => () | 10 => fun _ => () | 11 => fun x => (x.f_lo, x.f_hi, ()) | 12 => fun _ => () | 13 => fun _ => () | 14 => fun _ => () | 15 => fun x => (x.f_Method, x.f_Kind, ()) | 16 => fun x => (x.f_s, ()) | 17 => fun x => (x.f_PkgPath, x.f_Mcount, x.f_Xcount, x.f_Moff, x.f_blank4, ()) | 18 => fun x => (x.f_Name, x.f_Mtyp, x.f_Ifn, x.f_Tfn, ()) | _ + 19 => fun _ => ()
def UnInn : (n : Nat) → (UnB n).den UnT → UnT n := fun n => match n with | 0 => fun (x : Int × Int × Bool × Int × Unit) => (T_runtime_boundsError.mk x.1 x.2.1 x.2.2.1 x.2.2.2.1 : T_runtime_boundsError) | 1 => fun (x : (List UInt8) × Int × Unit) => (T_runtime_errorAddressString.mk x.1 x.2.1 : T_runtime_errorAddressString) | 2 => fun _ => () | 3 => fun (x : Int × (List UInt8) × (List UInt8) × (List UInt8) × Unit) => (T_lex_Piece.mk x.1 x.2.1 x.2.2.1 x.2.2.2.1 : T_lex_Piece) | 4 => fun (x : Int × T_env_Var × Unit) => (T_millwrightlaw14_Act.mk x.1 x.2.1 : T_millwrightlaw14_Act) | 5 => fun (x : (List UInt8) × (List (List UInt8)) × Int × Bool × Unit) => (T_env_Var.mk x.1 x.2.1 x.2.2.1 x.2.2.2.1 : T_env_Var) | 6 => fun (x : (List T_env_Var) × Unit) => (T_millwrightref14_Env.mk x.1 : T_millwrightref14_Env) | 7 => fun (x : (List UInt8) × Int × Nat × Unit) => (T_lex_reader.mk x.1 x.2.1 x.2.2.1 : T_lex_reader) | 8 => fun _ => () | 9 => fun _ => () | 10 => fun _ => () | 11 => fun (x : Int × Int × Unit) => (T_utf8_acceptRange.mk x.1 x.2.1 : T_utf8_acceptRange) | 12 => fun _ => () | 13 => fun _ => () | 14 => fun _ => () | 15 => fun (x : (List UInt8) × Int × Unit) => (T_reflectlite_ValueError.mk x.1 x.2.1 : T_reflectlite_ValueError) | 16 => fun (x : (List UInt8) × Unit) => (T_errors_errorString.mk x.1 : T_errors_errorString) | 17 => fun (x : Int × Int × Int × Int × Int × Unit) => (T_abi_UncommonType.mk x.1 x.2.1 x.2.2.1 x.2.2.2.1 x.2.2.2.2.1 : T_abi_UncommonType) | 18 => fun (x : Int × Int × Int × Int × Unit) => (T_abi_Method.mk x.1 x.2.1 x.2.2.1 x.2.2.2.1 : T_abi_Method) | _ + 19 => fun _ => ()
def UnW : Nat → Nat := fun n => match n with | 0 => 4 | 1 => 2 | 2 => 0 | 3 => 4 | 4 => 5 | 5 => 4 | 6 => 1 | 7 => 3 | 8 => 0 | 9 => 0 | 10 => 0 | 11 => 2 | 12 => 0 | 13 => 0 | 14 => 0 | 15 => 2 | 16 => 1 | 17 => 5 | 18 => 4 | _ + 19 => 0
def UnF : Nat → Bool := fun n => match n with | 0 => true | 1 => true | 2 => true | 3 => true | 4 => false | 5 => false | 6 => false | 7 => true | 8 => true | 9 => true | 10 => true | 11 => true | 12 => true | 13 => true | 14 => true | 15 => true | 16 => true | 17 => true | 18 => true | _ + 19 => true
theorem un_out_inn : ∀ n x, UnOut n (UnInn n x) = x := by
  intro n
  match n with
  | 0 => exact fun _ => rfl
  | 1 => exact fun _ => rfl
  | 2 => exact fun _ => rfl
  | 3 => exact fun _ => rfl
  | 4 => exact fun _ => rfl
  | 5 => exact fun _ => rfl
  | 6 => exact fun _ => rfl
  | 7 => exact fun _ => rfl
  | 8 => exact fun _ => rfl
  | 9 => exact fun _ => rfl
  | 10 => exact fun _ => rfl
  | 11 => exact fun _ => rfl
  | 12 => exact fun _ => rfl
  | 13 => exact fun _ => rfl
  | 14 => exact fun _ => rfl
  | 15 => exact fun _ => rfl
  | 16 => exact fun _ => rfl
  | 17 => exact fun _ => rfl
  | 18 => exact fun _ => rfl
  | _ + 19 => exact fun _ => rfl
theorem un_inn_out : ∀ n x, UnInn n (UnOut n x) = x := by
  intro n
  match n with
  | 0 => exact fun x => by cases x; rfl
  | 1 => exact fun x => by cases x; rfl
  | 2 => exact fun _ => rfl
  | 3 => exact fun x => by cases x; rfl
  | 4 => exact fun x => by cases x; rfl
  | 5 => exact fun x => by cases x; rfl
  | 6 => exact fun x => by cases x; rfl
  | 7 => exact fun x => by cases x; rfl
  | 8 => exact fun _ => rfl
  | 9 => exact fun _ => rfl
  | 10 => exact fun _ => rfl
  | 11 => exact fun x => by cases x; rfl
  | 12 => exact fun _ => rfl
  | 13 => exact fun _ => rfl
  | 14 => exact fun _ => rfl
  | 15 => exact fun x => by cases x; rfl
  | 16 => exact fun x => by cases x; rfl
  | 17 => exact fun x => by cases x; rfl
  | 18 => exact fun x => by cases x; rfl
  | _ + 19 => exact fun _ => rfl
theorem un_wd : ∀ n, (UnB n).width UnW = UnW n := by
  intro n
  match n with
  | 0 => rfl
  | 1 => rfl
  | 2 => rfl
  | 3 => rfl
  | 4 => rfl
  | 5 => rfl
  | 6 => rfl
  | 7 => rfl
  | 8 => rfl
  | 9 => rfl
  | 10 => rfl
  | 11 => rfl
  | 12 => rfl
  | 13 => rfl
  | 14 => rfl
  | 15 => rfl
  | 16 => rfl
  | 17 => rfl
  | 18 => rfl
  | _ + 19 => rfl
theorem un_fl : ∀ n, UnF n = true → (UnB n).flat UnF = true := by
  intro n
  match n with
  | 0 => exact fun h => by first | rfl | cases h
  | 1 => exact fun h => by first | rfl | cases h
  | 2 => exact fun h => by first | rfl | cases h
  | 3 => exact fun h => by first | rfl | cases h
  | 4 => exact fun h => by first | rfl | cases h
  | 5 => exact fun h => by first | rfl | cases h
  | 6 => exact fun h => by first | rfl | cases h
  | 7 => exact fun h => by first | rfl | cases h
  | 8 => exact fun h => by first | rfl | cases h
  | 9 => exact fun h => by first | rfl | cases h
  | 10 => exact fun h => by first | rfl | cases h
  | 11 => exact fun h => by first | rfl | cases h
  | 12 => exact fun h => by first | rfl | cases h
  | 13 => exact fun h => by first | rfl | cases h
  | 14 => exact fun h => by first | rfl | cases h
  | 15 => exact fun h => by first | rfl | cases h
  | 16 => exact fun h => by first | rfl | cases h
  | 17 => exact fun h => by first | rfl | cases h
  | 18 => exact fun h => by first | rfl | cases h
  | _ + 19 => exact fun _ => rfl
def Un : Univ where
  T := UnT
  body := UnB
  out := UnOut
  inn := UnInn
  out_inn := un_out_inn
  inn_out := un_inn_out
  wd := UnW
  wd_ok := un_wd
  fl := UnF
  fl_ok := un_fl
theorem mixed : Tryd.prog.follows .mixedOrders = true := by kernel_rfl
theorem ty_56 : TyOk Tryd.prog Un 56 (.list (.named 5)) := tyOk_mk (c := 1) (by kernel_rfl) rfl Tryd.underlying56 rfl
theorem fd_58_0 : FdOk Tryd.prog Un 58 0 0 56 (.list (.named 5)) := ⟨⟨_, _, Tryd.underlying58, rfl, rfl, rfl⟩, ty_56⟩
theorem ty_9 : TyOk Tryd.prog Un 9 .str := tyOk_mk (c := 1) (by kernel_rfl) rfl Tryd.underlying9 rfl
theorem fd_60_0 : FdOk Tryd.prog Un 60 0 0 9 .str := ⟨⟨_, _, Tryd.underlying60, rfl, rfl, rfl⟩, ty_9⟩
theorem ty_22 : TyOk Tryd.prog Un 22 (.list .str) := tyOk_mk (c := 1) (by kernel_rfl) rfl Tryd.underlying22 rfl
theorem fd_60_1 : FdOk Tryd.prog Un 60 1 1 22 (.list .str) := ⟨⟨_, _, Tryd.underlying60, rfl, rfl, rfl⟩, ty_22⟩
theorem ty_3 : TyOk Tryd.prog Un 3 (.int .i64) := tyOk_mk (c := 1) (by kernel_rfl) rfl Tryd.underlying3 rfl
theorem fd_60_2 : FdOk Tryd.prog Un 60 2 2 3 (.int .i64) := ⟨⟨_, _, Tryd.underlying60, rfl, rfl, rfl⟩, ty_3⟩
theorem ty_4 : TyOk Tryd.prog Un 4 .bool := tyOk_mk (c := 1) (by kernel_rfl) rfl Tryd.underlying4 rfl
theorem fd_60_3 : FdOk Tryd.prog Un 60 3 3 4 .bool := ⟨⟨_, _, Tryd.underlying60, rfl, rfl, rfl⟩, ty_4⟩
theorem fd_62_0 : FdOk Tryd.prog Un 62 0 0 3 (.int .i64) := ⟨⟨_, _, Tryd.underlying62, rfl, rfl, rfl⟩, ty_3⟩
theorem ty_60 : TyOk Tryd.prog Un 60 (.named 5) := tyOk_mk (c := 4) (by kernel_rfl) rfl Tryd.underlying60 rfl
theorem fd_62_1 : FdOk Tryd.prog Un 62 1 1 60 (.named 5) := ⟨⟨_, _, Tryd.underlying62, rfl, rfl, rfl⟩, ty_60⟩
theorem fd_66_0 : FdOk Tryd.prog Un 66 0 0 9 .str := ⟨⟨_, _, Tryd.underlying66, rfl, rfl, rfl⟩, ty_9⟩
theorem fd_66_1 : FdOk Tryd.prog Un 66 1 1 22 (.list .str) := ⟨⟨_, _, Tryd.underlying66, rfl, rfl, rfl⟩, ty_22⟩
theorem fd_66_2 : FdOk Tryd.prog Un 66 2 2 3 (.int .i64) := ⟨⟨_, _, Tryd.underlying66, rfl, rfl, rfl⟩, ty_3⟩
theorem fd_66_3 : FdOk Tryd.prog Un 66 3 3 4 .bool := ⟨⟨_, _, Tryd.underlying66, rfl, rfl, rfl⟩, ty_4⟩
theorem ty1_89 : TyOk Tryd.prog Un 89 .bool := tyOk_mk (c := 1) (by kernel_rfl) rfl Tryd.underlying89 rfl
theorem fd_91_0 : FdOk Tryd.prog Un 91 0 0 89 .bool := ⟨⟨_, _, Tryd.underlying91, rfl, rfl, rfl⟩, ty1_89⟩
theorem hb_8 : HasBody Tryd.prog 8 := ⟨⟨_, Tryd.func8, by kernel_rfl, rfl⟩⟩
theorem hb_9 : HasBody Tryd.prog 9 := ⟨⟨_, Tryd.func9, by kernel_rfl, rfl⟩⟩
theorem hb_12 : HasBody Tryd.prog 12 := ⟨⟨_, Tryd.func12, by kernel_rfl, rfl⟩⟩
theorem hb_13 : HasBody Tryd.prog 13 := ⟨⟨_, Tryd.func13, by kernel_rfl, rfl⟩⟩
theorem hb_24 : HasBody Tryd.prog 24 := ⟨⟨_, Tryd.func24, by kernel_rfl, rfl⟩⟩
theorem hb_25 : HasBody Tryd.prog 25 := ⟨⟨_, Tryd.func25, by kernel_rfl, rfl⟩⟩
theorem hb_26 : HasBody Tryd.prog 26 := ⟨⟨_, Tryd.func26, by kernel_rfl, rfl⟩⟩
theorem hb_27 : HasBody Tryd.prog 27 := ⟨⟨_, Tryd.func27, by kernel_rfl, rfl⟩⟩
theorem hb_28 : HasBody Tryd.prog 28 := ⟨⟨_, Tryd.func28, by kernel_rfl, rfl⟩⟩
theorem hb_29 : HasBody Tryd.prog 29 := ⟨⟨_, Tryd.func29, by kernel_rfl, rfl⟩⟩
theorem hb_30 : HasBody Tryd.prog 30 := ⟨⟨_, Tryd.func30, by kernel_rfl, rfl⟩⟩
theorem hb_31 : HasBody Tryd.prog 31 := ⟨⟨_, Tryd.func31, by kernel_rfl, rfl⟩⟩
theorem hb_32 : HasBody Tryd.prog 32 := ⟨⟨_, Tryd.func32, by kernel_rfl, rfl⟩⟩
theorem hb_33 : HasBody Tryd.prog 33 := ⟨⟨_, Tryd.func33, by kernel_rfl, rfl⟩⟩
theorem hb_34 : HasBody Tryd.prog 34 := ⟨⟨_, Tryd.func34, by kernel_rfl, rfl⟩⟩
theorem hb_35 : HasBody Tryd.prog 35 := ⟨⟨_, Tryd.func35, by kernel_rfl, rfl⟩⟩
theorem hb_36 : HasBody Tryd.prog 36 := ⟨⟨_, Tryd.func36, by kernel_rfl, rfl⟩⟩
theorem hb_37 : HasBody Tryd.prog 37 := ⟨⟨_, Tryd.func37, by kernel_rfl, rfl⟩⟩
theorem hb_38 : HasBody Tryd.prog 38 := ⟨⟨_, Tryd.func38, by kernel_rfl, rfl⟩⟩
theorem hb_39 : HasBody Tryd.prog 39 := ⟨⟨_, Tryd.func39, by kernel_rfl, rfl⟩⟩
theorem hb_40 : HasBody Tryd.prog 40 := ⟨⟨_, Tryd.func40, by kernel_rfl, rfl⟩⟩
theorem hb_51 : HasBody Tryd.prog 51 := ⟨⟨_, Tryd.func51, by kernel_rfl, rfl⟩⟩
theorem hb_52 : HasBody Tryd.prog 52 := ⟨⟨_, Tryd.func52, by kernel_rfl, rfl⟩⟩
theorem hb_53 : HasBody Tryd.prog 53 := ⟨⟨_, Tryd.func53, by kernel_rfl, rfl⟩⟩
theorem hb_54 : HasBody Tryd.prog 54 := ⟨⟨_, Tryd.func54, by kernel_rfl, rfl⟩⟩
theorem hb_55 : HasBody Tryd.prog 55 := ⟨⟨_, Tryd.func55, by kernel_rfl, rfl⟩⟩
theorem hb_56 : HasBody Tryd.prog 56 := ⟨⟨_, Tryd.func56, by kernel_rfl, rfl⟩⟩
theorem hb_57 : HasBody Tryd.prog 57 := ⟨⟨_, Tryd.func57, by kernel_rfl, rfl⟩⟩
theorem hb_58 : HasBody Tryd.prog 58 := ⟨⟨_, Tryd.func58, by kernel_rfl, rfl⟩⟩
theorem hb_59 : HasBody Tryd.prog 59 := ⟨⟨_, Tryd.func59, by kernel_rfl, rfl⟩⟩
theorem hb_66 : HasBody Tryd.prog 66 := ⟨⟨_, Tryd.func66, by kernel_rfl, rfl⟩⟩
theorem hb_72 : HasBody Tryd.prog 72 := ⟨⟨_, Tryd.func72, by kernel_rfl, rfl⟩⟩
theorem hb_75 : HasBody Tryd.prog 75 := ⟨⟨_, Tryd.func75, by kernel_rfl, rfl⟩⟩
theorem hb_76 : HasBody Tryd.prog 76 := ⟨⟨_, Tryd.func76, by kernel_rfl, rfl⟩⟩
theorem hb_77 : HasBody Tryd.prog 77 := ⟨⟨_, Tryd.func77, by kernel_rfl, rfl⟩⟩
theorem hb_78 : HasBody Tryd.prog 78 := ⟨⟨_, Tryd.func78, by kernel_rfl, rfl⟩⟩
theorem hb_79 : HasBody Tryd.prog 79 := ⟨⟨_, Tryd.func79, by kernel_rfl, rfl⟩⟩
theorem hb_80 : HasBody Tryd.prog 80 := ⟨⟨_, Tryd.func80, by kernel_rfl, rfl⟩⟩
theorem hb_81 : HasBody Tryd.prog 81 := ⟨⟨_, Tryd.func81, by kernel_rfl, rfl⟩⟩
theorem hb_95 : HasBody Tryd.prog 95 := ⟨⟨_, Tryd.func95, by kernel_rfl, rfl⟩⟩
theorem lays_58 : lays Tryd.prog 58 = some ([.slice none 0 0], (fun i => ([(0, 1)] : List (Nat × Nat)).toArray[i]?)) := by kernel_rfl
theorem lays_60 : lays Tryd.prog 60 = some ([.string ByteArray.empty, .slice none 0 0, .int .i64 0, .bool false], (fun i => ([(0, 1), (1, 1), (2, 1), (3, 1)] : List (Nat × Nat)).toArray[i]?)) := by kernel_rfl
theorem lays_91 : lays Tryd.prog 91 = some ([.map none], (fun i => ([(0, 1)] : List (Nat × Nat)).toArray[i]?)) := by kernel_rfl
theorem map_89 : MapOk Tryd.prog 89 9 60 := ⟨Tryd.underlying89, Tryd.underlying9⟩
theorem sl_22 : SlOk Tryd.prog Un 22 9 .str := ⟨Tryd.underlying22, ty_9⟩
theorem row_22 : RowOk Tryd.prog Un 22 9 .str 16 := rowOk_mk (c := 1) sl_22 (by kernel_rfl) rfl (by decide)
theorem ty_66 : TyOk Tryd.prog Un 66 (.named 5) := tyOk_mk (c := 4) (by kernel_rfl) rfl Tryd.underlying66 rfl
theorem sl_56 : SlOk Tryd.prog Un 56 66 (.named 5) := ⟨Tryd.underlying56, ty_66⟩
theorem row_56 : RowOk Tryd.prog Un 56 66 (.named 5) 56 := rowOk_mk (c := 4) sl_56 (by kernel_rfl) rfl (by decide)
theorem ty_27 : TyOk Tryd.prog Un 27 .err := tyOk_mk (c := 1) (by kernel_rfl) rfl Tryd.underlying27 rfl
theorem sl_93 : SlOk Tryd.prog Un 93 27 .err := ⟨Tryd.underlying93, ty_27⟩
theorem row_93 : RowOk Tryd.prog Un 93 27 .err 16 := rowOk_mk (c := 1) sl_93 (by kernel_rfl) rfl (by decide)
theorem sl_97 : SlOk Tryd.prog Un 97 60 (.named 5) := ⟨Tryd.underlying97, ty_60⟩
theorem row_97 : RowOk Tryd.prog Un 97 60 (.named 5) 56 := rowOk_mk (c := 4) sl_97 (by kernel_rfl) rfl (by decide)
theorem ty_62 : TyOk Tryd.prog Un 62 (.named 4) := tyOk_mk (c := 5) (by kernel_rfl) rfl Tryd.underlying62 rfl
theorem sl_51 : SlOk Tryd.prog Un 51 62 (.named 4) := ⟨Tryd.underlying51, ty_62⟩
theorem z0_9 : ZeroOk Tryd.prog Un 9 .str ([] : List UInt8) := zeroOk_str (by kernel_rfl)
theorem z1_60 : (Tryd.prog.info? 60).map (fun i => i.zero.map fun z => z.cells.toList.all Value.oneCell') = some (some true) := by kernel_rfl
theorem zv_60 : ZeroOk Tryd.prog Un 60 (.named 5) ((T_env_Var.mk [] [] 0 false) : T_env_Var) := zeroOk_mk (v := (.agg #[.string ByteArray.empty, .slice none 0 0, .int .i64 0, .bool false])) (by kernel_rfl) fun _ _ _ => ⟨_, (.named _ _ (.pair rd_str0 (.pair (.lnil _) (.pair (.int _ _) (.pair (.bool _) .unit))))), rfl⟩
theorem mvU : type_of% (@mv Un) := @mv Un
theorem cvR : type_of% (@Conv.refl Un) := @Conv.refl Un
theorem rgU : type_of% (@WpC.reg Un) := @WpC.reg Un
theorem caV : type_of% (@sok_callV Un) := @sok_callV Un
theorem cmU : type_of% (@sok_cmp Un) := @sok_cmp Un
theorem cvK : type_of% (@Conv.keep Un) := @Conv.keep Un
theorem mvA : type_of% (@mva Un) := @mva Un
theorem pkT : type_of% (@sok_pickT Un) := @sok_pickT Un
theorem pkF : type_of% (@sok_pickF Un) := @sok_pickF Un
theorem eqU : type_of% (@sok_eqPN Un) := @sok_eqPN Un
theorem moU : type_of% (@sok_move Un) := @sok_move Un
theorem sqJ : type_of% (@WpC.seqJ Un) := @WpC.seqJ Un
theorem cdU : type_of% (@WpC.cond Un) := @WpC.cond Un
theorem exU : type_of% (@sok_extract Un) := @sok_extract Un
theorem ldB : type_of% (@sok_loadB Un) := @sok_loadB Un
theorem cvT : type_of% (@Conv.trans Un) := @Conv.trans Un
theorem fdB : type_of% (@sok_fieldB Un) := @sok_fieldB Un
theorem neU : type_of% (@sok_neB Un) := @sok_neB Un
theorem nlU : type_of% (@sok_nilCheck Un) := @sok_nilCheck Un
theorem skU : type_of% (@sok_skip Un) := @sok_skip Un
theorem tnU : type_of% (@thenQ_normal Un) := @thenQ_normal Un
end Go.Proofs.YtnbnfjgedinlbabDoor
