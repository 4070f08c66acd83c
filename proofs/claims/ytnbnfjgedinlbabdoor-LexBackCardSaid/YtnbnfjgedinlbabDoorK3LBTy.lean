/- A part of the proof of a given law: LBTy. Own work, printed in part by a program of mine. -/
import Derived.Test.YtnbnfjgedinlbabDoorK3AmZ
import Derived.Test.YtnbnfjgedinlbabDoorProg
namespace Go.Proofs.YtnbnfjgedinlbabDoor
open Go Go.AM
set_option linter.unusedVariables false
set_option linter.unusedSimpArgs false
set_option maxRecDepth 100000
structure T_runtime_boundsError where
  f_x : Int
  f_y : Int
  f_signed : Bool
  f_code : Int
  deriving Inhabited
structure T_runtime_errorAddressString where
  f_msg : List UInt8
  f_addr : Int
  deriving Inhabited
structure T_lex_Piece where
  f_Kind : Int
  f_Text : List UInt8
  f_From : List UInt8
  f_To : List UInt8
  deriving Inhabited
structure T_env_Var where
  f_Name : List UInt8
  f_Words : List (List UInt8)
  f_Level : Int
  f_Hidden : Bool
  deriving Inhabited
structure T_millwrightlaw14_Act where
  f_Kind : Int
  f_Var : T_env_Var
  deriving Inhabited
structure T_millwrightref14_Env where
  f_All : List T_env_Var
  deriving Inhabited
structure T_lex_reader where
  f_s : List UInt8
  f_at : Int
  f_err : Nat
  deriving Inhabited
structure T_utf8_acceptRange where
  f_lo : Int
  f_hi : Int
  deriving Inhabited
structure T_reflectlite_ValueError where
  f_Method : List UInt8
  f_Kind : Int
  deriving Inhabited
structure T_errors_errorString where
  f_s : List UInt8
  deriving Inhabited
structure T_abi_UncommonType where
  f_PkgPath : Int
  f_Mcount : Int
  f_Xcount : Int
  f_Moff : Int
  f_blank4 : Int
  deriving Inhabited
structure T_abi_Method where
  f_Name : Int
  f_Mtyp : Int
  f_Ifn : Int
  f_Tfn : Int
  deriving Inhabited
def UnT : Nat → Type := fun n => match n with | 0 => T_runtime_boundsError | 1 => T_runtime_errorAddressString | 2 => Unit | 3 => T_lex_Piece | 4 => T_millwrightlaw14_Act | 5 => T_env_Var | 6 => T_millwrightref14_Env | 7 => T_lex_reader | 8 => Unit | 9 => Unit | 10 => Unit | 11 => T_utf8_acceptRange | 12 => Unit | 13 => Unit | 14 => Unit | 15 => T_reflectlite_ValueError | 16 => T_errors_errorString | 17 => T_abi_UncommonType | 18 => T_abi_Method | _ + 19 => Unit
def UnB : Nat → Ty := fun n => match n with | 0 => (.pair (.int .i64) (.pair (.int .i64) (.pair .bool (.pair (.int .u8) .unit)))) | 1 => (.pair .str (.pair (.int .u64) .unit)) | 2 => .unit | 3 => (.pair (.int .i64) (.pair .str (.pair .str (.pair .str .unit)))) | 4 => (.pair (.int .i64) (.pair (.named 5) .unit)) | 5 => (.pair .str (.pair (.list .str) (.pair (.int .i64) (.pair .bool .unit)))) | 6 => (.pair (.list (.named 5)) .unit) | 7 => (.pair .str (.pair (.int .i64) (.pair .err .unit))) | 8 => .unit | 9 => .unit | 10 => .unit | 11 => (.pair (.int .u8) (.pair (.int .u8) .unit)) | 12 => .unit | 13 => .unit | 14 => .unit | 15 => (.pair .str (.pair (.int .u8) .unit)) | 16 => (.pair .str .unit) | 17 => (.pair (.int .i32) (.pair (.int .u16) (.pair (.int .u16) (.pair (.int .u32) (.pair (.int .u32) .unit))))) | 18 => (.pair (.int .i32) (.pair (.int .i32) (.pair (.int .i32) (.pair (.int .i32) .unit)))) | _ + 19 => .unit
def UnOut : (n : Nat) → UnT n → (UnB n).den UnT := fun n => match n with | 0 => fun x => (x.f_x, x.f_y, x.f_signed, x.f_code, ()) | 1 => fun x => (x.f_msg, x.f_addr, ()) | 2 => fun _ => () | 3 => fun x => (x.f_Kind, x.f_Text, x.f_From, x.f_To, ()) | 4 => fun x => (x.f_Kind, x.f_Var, ()) | 5 => fun x => (x.f_Name, x.f_Words, x.f_Level, x.f_Hidden, ()) | 6 => fun x => (x.f_All, ()) | 7 => fun x => (x.f_s, x.f_at, x.f_err, ()) | 8 => fun _ => () | 9 => fun _ => () | 10 => fun _ => () | 11 => fun x => (x.f_lo, x.f_hi, ()) | 12 => fun _ => () | 13 => fun _ => () | 14 => fun _ => () | 15 => fun x => (x.f_Method, x.f_Kind, ()) | 16 => fun x => (x.f_s, ()) | 17 => fun x => (x.f_PkgPath, x.f_Mcount, x.f_Xcount, x.f_Moff, x.f_blank4, ()) | 18 => fun x => (x.f_Name, x.f_Mtyp, x.f_Ifn, x.f_Tfn, ()) | _ + 19 => fun _ => ()
def UnInn : (n : Nat) → (UnB n).den UnT → UnT n := fun n => match n with | 0 => fun (x : Int × Int × Bool × Int × Unit) => (T_runtime_boundsError.mk x.1 x.2.1 x.2.2.1 x.2.2.2.1 : T_runtime_boundsError) | 1 => fun (x : (List UInt8) × Int × Unit) => (T_runtime_errorAddressString.mk x.1 x.2.1 : T_runtime_errorAddressString) | 2 => fun _ => () | 3 => fun (x : Int × (List UInt8) × (List UInt8) × (List UInt8) × Unit) => (T_lex_Piece.mk x.1 x.2.1 x.2.2.1 x.2.2.2.1 : T_lex_Piece) | 4 => fun (x : Int × T_env_Var × Unit) => (T_millwrightlaw14_Act.mk x.1 x.2.1 : T_millwrightlaw14_Act) | 5 => fun (x : (List UInt8) × (List (List UInt8)) × Int × Bool × Unit) => (T_env_Var.mk x.1 x.2.1 x.2.2.1 x.2.2.2.1 : T_env_Var) | 6 => fun (x : (List T_env_Var) × Unit) => (T_millwrightref14_Env.mk x.1 : T_millwrightref14_Env) | 7 => fun (x : (List UInt8) × Int × Nat × Unit) => (T_lex_reader.mk x.1 x.2.1 x.2.2.1 : T_lex_reader) | 8 => fun _ => () | 9 => fun _ => () | 10 => fun _ => () | 11 => fun (x : Int × Int × Unit) => (T_utf8_acceptRange.mk x.1 x.2.1 : T_utf8_acceptRange) | 12 => fun _ => () | 13 => fun _ => () | 14 => fun _ => () | 15 => fun (x : (List UInt8) × Int × Unit) => (T_reflectlite_ValueError.mk x.1 x.2.1 : T_reflectlite_ValueError) | 16 => fun (x : (List UInt8) × Unit) => (T_errors_errorString.mk x.1 : T_errors_errorString) | 17 => fun (x : Int × Int × Int × Int × Int × Unit) => (T_abi_UncommonType.mk x.1 x.2.1 x.2.2.1 x.2.2.2.1 x.2.2.2.2.1 : T_abi_UncommonType) | 18 => fun (x : Int × Int × Int × Int × Unit) => (T_abi_Method.mk x.1 x.2.1 x.2.2.1 x.2.2.2.1 : T_abi_Method) | _ + 19 => fun _ => ()
def UnW : Nat → Nat := fun n => match n with | 0 => 4 | 1 => 2 | 2 => 0 | 3 => 4 | 4 => 5 | 5 => 4 | 6 => 1 | 7 => 3 | 8 => 0 | 9 => 0 | 10 => 0 | 11 => 2 | 12 => 0 | 13 => 0 | 14 => 0 | 15 => 2 | 16 => 1 | 17 => 5 | 18 => 4 | _ + 19 => 0
def UnF : Nat → Bool := fun n => match n with | 0 => true | 1 => true | 2 => true | 3 => true | 4 => false | 5 => false | 6 => false | 7 => true | 8 => true | 9 => true | 10 => true | 11 => true | 12 => true | 13 => true | 14 => true | 15 => true | 16 => true | 17 => true | 18 => true | _ + 19 => true
theorem un_out_inn : ∀ n x, UnOut n (UnInn n x) = x := by
  intro n
  match n with
  | 0 => exact fun _ => rfl
  | 1 => exact fun _ => rfl
  | 2 => exact fun _ => rfl
  | 3 => exact fun _ => rfl
  | 4 => exact fun _ => rfl
  | 5 => exact fun _ => rfl
  | 6 => exact fun _ => rfl
  | 7 => exact fun _ => rfl
  | 8 => exact fun _ => rfl
  | 9 => exact fun _ => rfl
  | 10 => exact fun _ => rfl
  | 11 => exact fun _ => rfl
  | 12 => exact fun _ => rfl
  | 13 => exact fun _ => rfl
  | 14 => exact fun _ => rfl
  | 15 => exact fun _ => rfl
  | 16 => exact fun _ => rfl
  | 17 => exact fun _ => rfl
  | 18 => exact fun _ => rfl
  | _ + 19 => exact fun _ => rfl
theorem un_inn_out : ∀ n x, UnInn n (UnOut n x) = x := by
  intro n
  match n with
  | 0 => exact fun x => by cases x; rfl
  | 1 => exact fun x => by cases x; rfl
  | 2 => exact fun _ => rfl
  | 3 => exact fun x => by cases x; rfl
  | 4 => exact fun x => by cases x; rfl
  | 5 => exact fun x => by cases x; rfl
  | 6 => exact fun x => by cases x; rfl
  | 7 => exact fun x => by cases x; rfl
  | 8 => exact fun _ => rfl
  | 9 => exact fun _ => rfl
  | 10 => exact fun _ => rfl
  | 11 => exact fun x => by cases x; rfl
  | 12 => exact fun _ => rfl
  | 13 => exact fun _ => rfl
  | 14 => exact fun _ => rfl
  | 15 => exact fun x => by cases x; rfl
  | 16 => exact fun x => by cases x; rfl
  | 17 => exact fun x => by cases x; rfl
  | 18 => exact fun x => by cases x; rfl
  | _ + 19 => exact fun _ => rfl
theorem un_wd : ∀ n, (UnB n).width UnW = UnW n := by
  intro n
  match n with
  | 0 => rfl
  | 1 => rfl
  | 2 => rfl
  | 3 => rfl
  | 4 => rfl
  | 5 => rfl
  | 6 => rfl
  | 7 => rfl
  | 8 => rfl
  | 9 => rfl
  | 10 => rfl
  | 11 => rfl
  | 12 => rfl
  | 13 => rfl
  | 14 => rfl
  | 15 => rfl
  | 16 => rfl
  | 17 => rfl
  | 18 => rfl
  | _ + 19 => rfl
theorem un_fl : ∀ n, UnF n = true → (UnB n).flat UnF = true := by
  intro n
  match n with
  | 0 => exact fun h => by first | rfl | cases h
  | 1 => exact fun h => by first | rfl | cases h
  | 2 => exact fun h => by first | rfl | cases h
  | 3 => exact fun h => by first | rfl | cases h
  | 4 => exact fun h => by first | rfl | cases h
  | 5 => exact fun h => by first | rfl | cases h
  | 6 => exact fun h => by first | rfl | cases h
  | 7 => exact fun h => by first | rfl | cases h
  | 8 => exact fun h => by first | rfl | cases h
  | 9 => exact fun h => by first | rfl | cases h
  | 10 => exact fun h => by first | rfl | cases h
  | 11 => exact fun h => by first | rfl | cases h
  | 12 => exact fun h => by first | rfl | cases h
  | 13 => exact fun h => by first | rfl | cases h
  | 14 => exact fun h => by first | rfl | cases h
  | 15 => exact fun h => by first | rfl | cases h
  | 16 => exact fun h => by first | rfl | cases h
  | 17 => exact fun h => by first | rfl | cases h
  | 18 => exact fun h => by first | rfl | cases h
  | _ + 19 => exact fun _ => rfl
def Un : Univ where
  T := UnT
  body := UnB
  out := UnOut
  inn := UnInn
  out_inn := un_out_inn
  inn_out := un_inn_out
  wd := UnW
  wd_ok := un_wd
  fl := UnF
  fl_ok := un_fl
theorem mixed : Tryd.prog.follows .mixedOrders = true := by kernel_rfl
theorem ty_3 : TyOk Tryd.prog Un 3 (.int .i64) := tyOk_mk (c := 1) (by kernel_rfl) rfl Tryd.underlying3 rfl
theorem ty_9 : TyOk Tryd.prog Un 9 .str := tyOk_mk (c := 1) (by kernel_rfl) rfl Tryd.underlying9 rfl
theorem eqf_42 : ∀ fs, Tryd.prog.underlying 42 = some (.struct fs) → EqF Tryd.prog Un fs.toList 0 (Un.body 3) := fun fs h => by
  rw [Tryd.underlying42] at h
  cases h
  exact (.cons (by decide) rfl ty_3 (.int Tryd.underlying3) (.cons (by decide) rfl ty_9 (.str Tryd.underlying9) (.cons (by decide) rfl ty_9 (.str Tryd.underlying9) (.cons (by decide) rfl ty_9 (.str Tryd.underlying9) .nil))))
theorem fd_42_0 : FdOk Tryd.prog Un 42 0 0 3 (.int .i64) := ⟨⟨_, _, Tryd.underlying42, rfl, rfl, rfl⟩, ty_3⟩
theorem fd_42_1 : FdOk Tryd.prog Un 42 1 1 9 .str := ⟨⟨_, _, Tryd.underlying42, rfl, rfl, rfl⟩, ty_9⟩
theorem fd_42_2 : FdOk Tryd.prog Un 42 2 2 9 .str := ⟨⟨_, _, Tryd.underlying42, rfl, rfl, rfl⟩, ty_9⟩
theorem fd_42_3 : FdOk Tryd.prog Un 42 3 3 9 .str := ⟨⟨_, _, Tryd.underlying42, rfl, rfl, rfl⟩, ty_9⟩
theorem fd_81_0 : FdOk Tryd.prog Un 81 0 0 9 .str := ⟨⟨_, _, Tryd.underlying81, rfl, rfl, rfl⟩, ty_9⟩
theorem fd_81_1 : FdOk Tryd.prog Un 81 1 1 3 (.int .i64) := ⟨⟨_, _, Tryd.underlying81, rfl, rfl, rfl⟩, ty_3⟩
theorem ty_27 : TyOk Tryd.prog Un 27 .err := tyOk_mk (c := 1) (by kernel_rfl) rfl Tryd.underlying27 rfl
theorem fd_81_2 : FdOk Tryd.prog Un 81 2 2 27 .err := ⟨⟨_, _, Tryd.underlying81, rfl, rfl, rfl⟩, ty_27⟩
theorem hb_14 : HasBody Tryd.prog 14 := ⟨⟨_, Tryd.func14, by kernel_rfl, rfl⟩⟩
theorem hb_15 : HasBody Tryd.prog 15 := ⟨⟨_, Tryd.func15, by kernel_rfl, rfl⟩⟩
theorem hb_16 : HasBody Tryd.prog 16 := ⟨⟨_, Tryd.func16, by kernel_rfl, rfl⟩⟩
theorem hb_17 : HasBody Tryd.prog 17 := ⟨⟨_, Tryd.func17, by kernel_rfl, rfl⟩⟩
theorem hb_45 : HasBody Tryd.prog 45 := ⟨⟨_, Tryd.func45, by kernel_rfl, rfl⟩⟩
theorem hb_46 : HasBody Tryd.prog 46 := ⟨⟨_, Tryd.func46, by kernel_rfl, rfl⟩⟩
theorem hb_47 : HasBody Tryd.prog 47 := ⟨⟨_, Tryd.func47, by kernel_rfl, rfl⟩⟩
theorem hb_48 : HasBody Tryd.prog 48 := ⟨⟨_, Tryd.func48, by kernel_rfl, rfl⟩⟩
theorem hb_49 : HasBody Tryd.prog 49 := ⟨⟨_, Tryd.func49, by kernel_rfl, rfl⟩⟩
theorem hb_50 : HasBody Tryd.prog 50 := ⟨⟨_, Tryd.func50, by kernel_rfl, rfl⟩⟩
theorem hb_55 : HasBody Tryd.prog 55 := ⟨⟨_, Tryd.func55, by kernel_rfl, rfl⟩⟩
theorem hb_60 : HasBody Tryd.prog 60 := ⟨⟨_, Tryd.func60, by kernel_rfl, rfl⟩⟩
theorem hb_61 : HasBody Tryd.prog 61 := ⟨⟨_, Tryd.func61, by kernel_rfl, rfl⟩⟩
theorem hb_66 : HasBody Tryd.prog 66 := ⟨⟨_, Tryd.func66, by kernel_rfl, rfl⟩⟩
theorem hb_67 : HasBody Tryd.prog 67 := ⟨⟨_, Tryd.func67, by kernel_rfl, rfl⟩⟩
theorem hb_68 : HasBody Tryd.prog 68 := ⟨⟨_, Tryd.func68, by kernel_rfl, rfl⟩⟩
theorem hb_69 : HasBody Tryd.prog 69 := ⟨⟨_, Tryd.func69, by kernel_rfl, rfl⟩⟩
theorem hb_70 : HasBody Tryd.prog 70 := ⟨⟨_, Tryd.func70, by kernel_rfl, rfl⟩⟩
theorem hb_71 : HasBody Tryd.prog 71 := ⟨⟨_, Tryd.func71, by kernel_rfl, rfl⟩⟩
theorem hb_75 : HasBody Tryd.prog 75 := ⟨⟨_, Tryd.func75, by kernel_rfl, rfl⟩⟩
theorem hb_86 : HasBody Tryd.prog 86 := ⟨⟨_, Tryd.func86, by kernel_rfl, rfl⟩⟩
theorem hb_87 : HasBody Tryd.prog 87 := ⟨⟨_, Tryd.func87, by kernel_rfl, rfl⟩⟩
theorem hb_88 : HasBody Tryd.prog 88 := ⟨⟨_, Tryd.func88, by kernel_rfl, rfl⟩⟩
theorem hb_89 : HasBody Tryd.prog 89 := ⟨⟨_, Tryd.func89, by kernel_rfl, rfl⟩⟩
theorem hb_90 : HasBody Tryd.prog 90 := ⟨⟨_, Tryd.func90, by kernel_rfl, rfl⟩⟩
theorem hb_91 : HasBody Tryd.prog 91 := ⟨⟨_, Tryd.func91, by kernel_rfl, rfl⟩⟩
theorem lays_42 : lays Tryd.prog 42 = some ([.int .i64 0, .string ByteArray.empty, .string ByteArray.empty, .string ByteArray.empty], (fun i => ([(0, 1), (1, 1), (2, 1), (3, 1)] : List (Nat × Nat)).toArray[i]?)) := by kernel_rfl
theorem lays_81 : lays Tryd.prog 81 = some ([.string ByteArray.empty, .int .i64 0, .nilIface], (fun i => ([(0, 1), (1, 1), (2, 1)] : List (Nat × Nat)).toArray[i]?)) := by kernel_rfl
theorem ty_36 : TyOk Tryd.prog Un 36 (.list (.named 3)) := tyOk_mk (c := 1) (by kernel_rfl) rfl Tryd.underlying36 rfl
theorem sl_33 : SlOk Tryd.prog Un 33 36 (.list (.named 3)) := ⟨Tryd.underlying33, ty_36⟩
theorem row_33 : RowOk Tryd.prog Un 33 36 (.list (.named 3)) 24 := rowOk_mk (c := 1) sl_33 (by kernel_rfl) rfl (by decide)
theorem ty_42 : TyOk Tryd.prog Un 42 (.named 3) := tyOk_mk (c := 4) (by kernel_rfl) rfl Tryd.underlying42 rfl
theorem sl_36 : SlOk Tryd.prog Un 36 42 (.named 3) := ⟨Tryd.underlying36, ty_42⟩
theorem row_36 : RowOk Tryd.prog Un 36 42 (.named 3) 56 := rowOk_mk (c := 4) sl_36 (by kernel_rfl) rfl (by decide)
end Go.Proofs.YtnbnfjgedinlbabDoor
