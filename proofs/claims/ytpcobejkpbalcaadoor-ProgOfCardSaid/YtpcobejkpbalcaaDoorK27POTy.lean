/- A part of the proof of a given law: POTy. Own work, printed in part by a program of mine. -/
import Derived.Test.YtpcobejkpbalcaaDoorK27AmR6
import Derived.Test.YtpcobejkpbalcaaDoorProg
namespace Go.Proofs.YtpcobejkpbalcaaDoor
open Go Go.AM
set_option linter.unusedVariables false
set_option linter.unusedSimpArgs false
set_option maxRecDepth 100000
set_option maxHeartbeats 4000000
structure T_runtime_boundsError where
  f_x : Int
  f_y : Int
  f_signed : Bool
  f_code : Int
  deriving Inhabited
structure T_runtime_errorAddressString where
  f_msg : List UInt8
  f_addr : Int
  deriving Inhabited
structure T_prog_Instr where
  f_Op : Int
  f_X : Int
  f_Y : Int
  f_Set : List Int
  deriving Inhabited
inductive T_millwrightref07_Node where
  | mk (f_Kind : Int) (f_Index : Int) (f_Set : List Int) (f_Kids : List T_millwrightref07_Node)
def T_millwrightref07_Node.f_Kind : T_millwrightref07_Node → Int | .mk x0 _ _ _ => x0
def T_millwrightref07_Node.f_Index : T_millwrightref07_Node → Int | .mk _ x1 _ _ => x1
def T_millwrightref07_Node.f_Set : T_millwrightref07_Node → List Int | .mk _ _ x2 _ => x2
def T_millwrightref07_Node.f_Kids : T_millwrightref07_Node → List T_millwrightref07_Node | .mk _ _ _ x3 => x3
structure T_millwrightref08_Instr where
  f_Op : Int
  f_X : Int
  f_Y : Int
  f_Set : List Int
  deriving Inhabited
inductive T_rex_Node where
  | mk (f_Kind : Int) (f_Index : Int) (f_Set : List Int) (f_Kids : List T_rex_Node)
def T_rex_Node.f_Kind : T_rex_Node → Int | .mk x0 _ _ _ => x0
def T_rex_Node.f_Index : T_rex_Node → Int | .mk _ x1 _ _ => x1
def T_rex_Node.f_Set : T_rex_Node → List Int | .mk _ _ x2 _ => x2
def T_rex_Node.f_Kids : T_rex_Node → List T_rex_Node | .mk _ _ _ x3 => x3
structure T_millwrightref07_sign where
  f_Mark : Int
  f_Set : List Int
  deriving Inhabited
structure T_rex_parser where
  f_s : List UInt8
  f_at : Int
  f_groups : Int
  f_bad : Bool
  deriving Inhabited
structure T_prog_writer where
  f_code : List T_prog_Instr
  deriving Inhabited
structure T_reflectlite_ValueError where
  f_Method : List UInt8
  f_Kind : Int
  deriving Inhabited
structure T_errors_errorString where
  f_s : List UInt8
  deriving Inhabited
structure T_abi_UncommonType where
  f_PkgPath : Int
  f_Mcount : Int
  f_Xcount : Int
  f_Moff : Int
  f_blank4 : Int
  deriving Inhabited
structure T_abi_Method where
  f_Name : Int
  f_Mtyp : Int
  f_Ifn : Int
  f_Tfn : Int
  deriving Inhabited
def UnT : Nat → Type := fun n => match n with | 0 => T_runtime_boundsError | 1 => T_runtime_errorAddressString | 2 => Unit | 3 => T_prog_Instr | 4 => T_millwrightref07_Node | 5 => T_millwrightref08_Instr | 6 => T_rex_Node | 7 => T_millwrightref07_sign | 8 => T_rex_parser | 9 => T_prog_writer | 10 => Unit | 11 => Unit | 12 => Unit | 13 => Unit | 14 => T_reflectlite_ValueError | 15 => T_errors_errorString | 16 => T_abi_UncommonType | 17 => T_abi_Method | _ + 18 => Unit
def UnB : Nat → Ty := fun n => match n with | 0 => (.pair (.int .i64) (.pair (.int .i64) (.pair .bool (.pair (.int .u8) .unit)))) | 1 => (.pair .str (.pair (.int .u64) .unit)) | 2 => .unit | 3 => (.pair (.int .i64) (.pair (.int .i64) (.pair (.int .i64) (.pair (.arr 4 (.int .u64)) .unit)))) | 4 => (.pair (.int .i64) (.pair (.int .i64) (.pair (.arr 4 (.int .u64)) (.pair (.list (.named 4)) .unit)))) | 5 => (.pair (.int .i64) (.pair (.int .i64) (.pair (.int .i64) (.pair (.arr 4 (.int .u64)) .unit)))) | 6 => (.pair (.int .i64) (.pair (.int .i64) (.pair (.arr 4 (.int .u64)) (.pair (.list (.named 6)) .unit)))) | 7 => (.pair (.int .u8) (.pair (.arr 4 (.int .u64)) .unit)) | 8 => (.pair .str (.pair (.int .i64) (.pair (.int .i64) (.pair .bool .unit)))) | 9 => (.pair (.list (.named 3)) .unit) | 10 => .unit | 11 => .unit | 12 => .unit | 13 => .unit | 14 => (.pair .str (.pair (.int .u8) .unit)) | 15 => (.pair .str .unit) | 16 => (.pair (.int .i32) (.pair (.int .u16) (.pair (.int .u16) (.pair (.int .u32) (.pair (.int .u32) .unit))))) | 17 => (.pair (.int .i32) (.pair (.int .i32) (.pair (.int .i32) (.pair (.int .i32) .unit)))) | _ + 18 => .unit
def UnOut : (n : Nat) → UnT n → (UnB n).den UnT := fun n => match n with | 0 => fun x => (x.f_x, x.f_y, x.f_signed, x.f_code, ()) | 1 => fun x => (x.f_msg, x.f_addr, ()) | 2 => fun _ => () | 3 => fun x => (x.f_Op, x.f_X, x.f_Y, x.f_Set, ()) | 4 => fun x => (x.f_Kind, x.f_Index, x.f_Set, x.f_Kids, ()) | 5 => fun x => (x.f_Op, x.f_X, x.f_Y, x.f_Set, ()) | 6 => fun x => (x.f_Kind, x.f_Index, x.f_Set, x.f_Kids, ()) | 7 => fun x => (x.f_Mark, x.f_Set, ()) | 8 => fun x => (x.f_s, x.f_at, x.f_groups, x.f_bad, ()) | 9 => fun x => (x.f_code, ()) | 10 => fun _ => () | 11 => fun _ => () | 12 => fun _ => () | 13 => fun _ => () | 14 => fun x => (x.f_Method, x.f_Kind, ()) | 15 => fun x => (x.f_s, ()) | 16 => fun x => (x.f_PkgPath, x.f_Mcount, x.f_Xcount, x.f_Moff, x.f_blank4, ()) | 17 => fun x => (x.f_Name, x.f_Mtyp, x.f_Ifn, x.f_Tfn, ()) | _ + 18 => fun _ => ()
def UnInn : (n : Nat) → (UnB n).den UnT → UnT n := fun n => match n with | 0 => fun (x : Int × Int × Bool × Int × Unit) => (T_runtime_boundsError.mk x.1 x.2.1 x.2.2.1 x.2.2.2.1 : T_runtime_boundsError) | 1 => fun (x : (List UInt8) × Int × Unit) => (T_runtime_errorAddressString.mk x.1 x.2.1 : T_runtime_errorAddressString) | 2 => fun _ => () | 3 => fun (x : Int × Int × Int × (List Int) × Unit) => (T_prog_Instr.mk x.1 x.2.1 x.2.2.1 x.2.2.2.1 : T_prog_Instr) | 4 => fun (x : Int × Int × (List Int) × (List T_millwrightref07_Node) × Unit) => (T_millwrightref07_Node.mk x.1 x.2.1 x.2.2.1 x.2.2.2.1 : T_millwrightref07_Node) | 5 => fun (x : Int × Int × Int × (List Int) × Unit) => (T_millwrightref08_Instr.mk x.1 x.2.1 x.2.2.1 x.2.2.2.1 : T_millwrightref08_Instr) | 6 => fun (x : Int × Int × (List Int) × (List T_rex_Node) × Unit) => (T_rex_Node.mk x.1 x.2.1 x.2.2.1 x.2.2.2.1 : T_rex_Node) | 7 => fun (x : Int × (List Int) × Unit) => (T_millwrightref07_sign.mk x.1 x.2.1 : T_millwrightref07_sign) | 8 => fun (x : (List UInt8) × Int × Int × Bool × Unit) => (T_rex_parser.mk x.1 x.2.1 x.2.2.1 x.2.2.2.1 : T_rex_parser) | 9 => fun (x : (List T_prog_Instr) × Unit) => (T_prog_writer.mk x.1 : T_prog_writer) | 10 => fun _ => () | 11 => fun _ => () | 12 => fun _ => () | 13 => fun _ => () | 14 => fun (x : (List UInt8) × Int × Unit) => (T_reflectlite_ValueError.mk x.1 x.2.1 : T_reflectlite_ValueError) | 15 => fun (x : (List UInt8) × Unit) => (T_errors_errorString.mk x.1 : T_errors_errorString) | 16 => fun (x : Int × Int × Int × Int × Int × Unit) => (T_abi_UncommonType.mk x.1 x.2.1 x.2.2.1 x.2.2.2.1 x.2.2.2.2.1 : T_abi_UncommonType) | 17 => fun (x : Int × Int × Int × Int × Unit) => (T_abi_Method.mk x.1 x.2.1 x.2.2.1 x.2.2.2.1 : T_abi_Method) | _ + 18 => fun _ => ()
def UnW : Nat → Nat := fun n => match n with | 0 => 4 | 1 => 2 | 2 => 0 | 3 => 7 | 4 => 7 | 5 => 7 | 6 => 7 | 7 => 5 | 8 => 4 | 9 => 1 | 10 => 0 | 11 => 0 | 12 => 0 | 13 => 0 | 14 => 2 | 15 => 1 | 16 => 5 | 17 => 4 | _ + 18 => 0
def UnF : Nat → Bool := fun n => match n with | 0 => true | 1 => true | 2 => true | 3 => true | 4 => false | 5 => true | 6 => false | 7 => true | 8 => true | 9 => false | 10 => true | 11 => true | 12 => true | 13 => true | 14 => true | 15 => true | 16 => true | 17 => true | _ + 18 => true
theorem un_out_inn : ∀ n x, UnOut n (UnInn n x) = x := by
  intro n
  match n with
  | 0 => exact fun _ => rfl
  | 1 => exact fun _ => rfl
  | 2 => exact fun _ => rfl
  | 3 => exact fun _ => rfl
  | 4 => exact fun _ => rfl
  | 5 => exact fun _ => rfl
  | 6 => exact fun _ => rfl
  | 7 => exact fun _ => rfl
  | 8 => exact fun _ => rfl
  | 9 => exact fun _ => rfl
  | 10 => exact fun _ => rfl
  | 11 => exact fun _ => rfl
  | 12 => exact fun _ => rfl
  | 13 => exact fun _ => rfl
  | 14 => exact fun _ => rfl
  | 15 => exact fun _ => rfl
  | 16 => exact fun _ => rfl
  | 17 => exact fun _ => rfl
  | _ + 18 => exact fun _ => rfl
theorem un_inn_out : ∀ n x, UnInn n (UnOut n x) = x := by
  intro n
  match n with
  | 0 => exact fun x => by cases x; rfl
  | 1 => exact fun x => by cases x; rfl
  | 2 => exact fun _ => rfl
  | 3 => exact fun x => by cases x; rfl
  | 4 => exact fun x => by cases x; rfl
  | 5 => exact fun x => by cases x; rfl
  | 6 => exact fun x => by cases x; rfl
  | 7 => exact fun x => by cases x; rfl
  | 8 => exact fun x => by cases x; rfl
  | 9 => exact fun x => by cases x; rfl
  | 10 => exact fun _ => rfl
  | 11 => exact fun _ => rfl
  | 12 => exact fun _ => rfl
  | 13 => exact fun _ => rfl
  | 14 => exact fun x => by cases x; rfl
  | 15 => exact fun x => by cases x; rfl
  | 16 => exact fun x => by cases x; rfl
  | 17 => exact fun x => by cases x; rfl
  | _ + 18 => exact fun _ => rfl
theorem un_wd : ∀ n, (UnB n).width UnW = UnW n := by
  intro n
  match n with
  | 0 => rfl
  | 1 => rfl
  | 2 => rfl
  | 3 => rfl
  | 4 => rfl
  | 5 => rfl
  | 6 => rfl
  | 7 => rfl
  | 8 => rfl
  | 9 => rfl
  | 10 => rfl
  | 11 => rfl
  | 12 => rfl
  | 13 => rfl
  | 14 => rfl
  | 15 => rfl
  | 16 => rfl
  | 17 => rfl
  | _ + 18 => rfl
theorem un_fl : ∀ n, UnF n = true → (UnB n).flat UnF = true := by
  intro n
  match n with
  | 0 => exact fun h => by first | rfl | cases h
  | 1 => exact fun h => by first | rfl | cases h
  | 2 => exact fun h => by first | rfl | cases h
  | 3 => exact fun h => by first | rfl | cases h
  | 4 => exact fun h => by first | rfl | cases h
  | 5 => exact fun h => by first | rfl | cases h
  | 6 => exact fun h => by first | rfl | cases h
  | 7 => exact fun h => by first | rfl | cases h
  | 8 => exact fun h => by first | rfl | cases h
  | 9 => exact fun h => by first | rfl | cases h
  | 10 => exact fun h => by first | rfl | cases h
  | 11 => exact fun h => by first | rfl | cases h
  | 12 => exact fun h => by first | rfl | cases h
  | 13 => exact fun h => by first | rfl | cases h
  | 14 => exact fun h => by first | rfl | cases h
  | 15 => exact fun h => by first | rfl | cases h
  | 16 => exact fun h => by first | rfl | cases h
  | 17 => exact fun h => by first | rfl | cases h
  | _ + 18 => exact fun _ => rfl
def Un : Univ where
  T := UnT
  body := UnB
  out := UnOut
  inn := UnInn
  out_inn := un_out_inn
  inn_out := un_inn_out
  wd := UnW
  wd_ok := un_wd
  fl := UnF
  fl_ok := un_fl
theorem mixed : Tryd.prog.follows .mixedOrders = true := by kernel_rfl
theorem az_29 : ∃ v cs, (Tryd.prog.info? 29).bind (·.zero) = some v ∧ v.cells.toList = cs ∧ ZU Un [.p (.arr 4 (.int .u64)) ((List.replicate 4 (0 : Int)) : List Int)] cs := ⟨(.agg #[.int .u64 0, .int .u64 0, .int .u64 0, .int .u64 0]), _, by kernel_rfl, rfl, (.data (rd_zeros _ _) .nil)⟩
theorem az_32 : ∃ v cs, (Tryd.prog.info? 32).bind (·.zero) = some v ∧ v.cells.toList = cs ∧ ZU Un [.p (.int .i64) (0 : Int), .p (.int .i64) (0 : Int), .p (.arr 4 (.int .u64)) ((List.replicate 4 (0 : Int)) : List Int), .p (.list (.named 4)) ([] : List T_millwrightref07_Node)] cs := ⟨(.agg #[.int .i64 0, .int .i64 0, .int .u64 0, .int .u64 0, .int .u64 0, .int .u64 0, .slice none 0 0]), _, by kernel_rfl, rfl, (.data (fun _ _ _ => .int _ _) (.data (fun _ _ _ => .int _ _) (.data (rd_zeros _ _) (.data (fun _ _ _ => .lnil _) .nil))))⟩
theorem az_41 : ∃ v cs, (Tryd.prog.info? 41).bind (·.zero) = some v ∧ v.cells.toList = cs ∧ ZU Un [.p (.arr 4 (.int .u64)) ((List.replicate 4 (0 : Int)) : List Int)] cs := ⟨(.agg #[.int .u64 0, .int .u64 0, .int .u64 0, .int .u64 0]), _, by kernel_rfl, rfl, (.data (rd_zeros _ _) .nil)⟩
theorem az_43 : ∃ v cs, (Tryd.prog.info? 43).bind (·.zero) = some v ∧ v.cells.toList = cs ∧ ZU Un [.p (.int .i64) (0 : Int), .p (.int .i64) (0 : Int), .p (.int .i64) (0 : Int), .p (.arr 4 (.int .u64)) ((List.replicate 4 (0 : Int)) : List Int)] cs := ⟨(.agg #[.int .i64 0, .int .i64 0, .int .i64 0, .int .u64 0, .int .u64 0, .int .u64 0, .int .u64 0]), _, by kernel_rfl, rfl, (.data (fun _ _ _ => .int _ _) (.data (fun _ _ _ => .int _ _) (.data (fun _ _ _ => .int _ _) (.data (rd_zeros _ _) .nil))))⟩
theorem az_46 : ∃ v cs, (Tryd.prog.info? 46).bind (·.zero) = some v ∧ v.cells.toList = cs ∧ ZU Un [.p (.int .i64) (0 : Int), .p (.int .i64) (0 : Int), .p (.arr 4 (.int .u64)) ((List.replicate 4 (0 : Int)) : List Int), .p (.list (.named 6)) ([] : List T_rex_Node)] cs := ⟨(.agg #[.int .i64 0, .int .i64 0, .int .u64 0, .int .u64 0, .int .u64 0, .int .u64 0, .slice none 0 0]), _, by kernel_rfl, rfl, (.data (fun _ _ _ => .int _ _) (.data (fun _ _ _ => .int _ _) (.data (rd_zeros _ _) (.data (fun _ _ _ => .lnil _) .nil))))⟩
theorem az_70 : ∃ v cs, (Tryd.prog.info? 70).bind (·.zero) = some v ∧ v.cells.toList = cs ∧ ZU Un [.lit (.slice none 0 0)] cs := ⟨(.agg #[.slice none 0 0]), _, by kernel_rfl, rfl, (.lit rfl .nil)⟩
theorem az_75 : ∃ v cs, (Tryd.prog.info? 75).bind (·.zero) = some v ∧ v.cells.toList = cs ∧ ZU Un [.p (.int .u8) (0 : Int), .p (.arr 4 (.int .u64)) ((List.replicate 4 (0 : Int)) : List Int)] cs := ⟨(.agg #[.int .u8 0, .int .u64 0, .int .u64 0, .int .u64 0, .int .u64 0]), _, by kernel_rfl, rfl, (.data (fun _ _ _ => .int _ _) (.data (rd_zeros _ _) .nil))⟩
theorem az_78 : ∃ v cs, (Tryd.prog.info? 78).bind (·.zero) = some v ∧ v.cells.toList = cs ∧ ZU Un [.p (.arr 256 .bool) ((List.replicate 256 false) : List Bool)] cs := ⟨(.agg #[.bool false, .bool false, .bool false, .bool false, .bool false, .bool false, .bool false, .bool false, .bool false, .bool false, .bool false, .bool false, .bool false, .bool false, .bool false, .bool false, .bool false, .bool false, .bool false, .bool false, .bool false, .bool false, .bool false, .bool false, .bool false, .bool false, .bool false, .bool false, .bool false, .bool false, .bool false, .bool false, .bool false, .bool false, .bool false, .bool false, .bool false, .bool false, .bool false, .bool false, .bool false, .bool false, .bool false, .bool false, .bool false, .bool false, .bool false, .bool false, .bool false, .bool false, .bool false, .bool false, .bool false, .bool false, .bool false, .bool false, .bool false, .bool false, .bool false, .bool false, .bool false, .bool false, .bool false, .bool false, .bool false, .bool false, .bool false, .bool false, .bool false, .bool false, .bool false, .bool false, .bool false, .bool false, .bool false, .bool false, .bool false, .bool false, .bool false, .bool false, .bool false, .bool false, .bool false, .bool false, .bool false, .bool false, .bool false, .bool false, .bool false, .bool false, .bool false, .bool false, .bool false, .bool false, .bool false, .bool false, .bool false, .bool false, .bool false, .bool false, .bool false, .bool false, .bool false, .bool false, .bool false, .bool false, .bool false, .bool false, .bool false, .bool false, .bool false, .bool false, .bool false, .bool false, .bool false, .bool false, .bool false, .bool false, .bool false, .bool false, .bool false, .bool false, .bool false, .bool false, .bool false, .bool false, .bool false, .bool false, .bool false, .bool false, .bool false, .bool false, .bool false, .bool false, .bool false, .bool false, .bool false, .bool false, .bool false, .bool false, .bool false, .bool false, .bool false, .bool false, .bool false, .bool false, .bool false, .bool false, .bool false, .bool false, .bool false, .bool false, .bool false, .bool false, .bool false, .bool false, .bool false, .bool false, .bool false, .bool false, .bool false, .bool false, .bool false, .bool false, .bool false, .bool false, .bool false, .bool false, .bool false, .bool false, .bool false, .bool false, .bool false, .bool false, .bool false, .bool false, .bool false, .bool false, .bool false, .bool false, .bool false, .bool false, .bool false, .bool false, .bool false, .bool false, .bool false, .bool false, .bool false, .bool false, .bool false, .bool false, .bool false, .bool false, .bool false, .bool false, .bool false, .bool false, .bool false, .bool false, .bool false, .bool false, .bool false, .bool false, .bool false, .bool false, .bool false, .bool false, .bool false, .bool false, .bool false, .bool false, .bool false, .bool false, .bool false, .bool false, .bool false, .bool false, .bool false, .bool false, .bool false, .bool false, .bool false, .bool false, .bool false, .bool false, .bool false, .bool false, .bool false, .bool false, .bool false, .bool false, .bool false, .bool false, .bool false, .bool false, .bool false, .bool false, .bool false, .bool false, .bool false, .bool false, .bool false, .bool false, .bool false, .bool false, .bool false, .bool false, .bool false, .bool false, .bool false, .bool false, .bool false, .bool false, .bool false, .bool false]), _, by kernel_rfl, rfl, (.data (rd_falses _) .nil)⟩
theorem ty_3 : TyOk Tryd.prog Un 3 (.int .i64) := tyOk_mk (c := 1) (by kernel_rfl) rfl Tryd.underlying3 rfl
theorem fd_32_0 : FdOk Tryd.prog Un 32 0 0 3 (.int .i64) := ⟨⟨_, _, Tryd.underlying32, rfl, rfl, rfl⟩, ty_3⟩
theorem fd_32_1 : FdOk Tryd.prog Un 32 1 1 3 (.int .i64) := ⟨⟨_, _, Tryd.underlying32, rfl, rfl, rfl⟩, ty_3⟩
theorem ty_29 : TyOk Tryd.prog Un 29 (.arr 4 (.int .u64)) := tyOk_mk (c := 4) (by kernel_rfl) rfl Tryd.underlying29 rfl
theorem fd_32_2 : FdOk Tryd.prog Un 32 2 2 29 (.arr 4 (.int .u64)) := ⟨⟨_, _, Tryd.underlying32, rfl, rfl, rfl⟩, ty_29⟩
theorem ty_30 : TyOk Tryd.prog Un 30 (.list (.named 4)) := tyOk_mk (c := 1) (by kernel_rfl) rfl Tryd.underlying30 rfl
theorem fd_32_3 : FdOk Tryd.prog Un 32 3 6 30 (.list (.named 4)) := ⟨⟨_, _, Tryd.underlying32, rfl, rfl, rfl⟩, ty_30⟩
theorem fd_43_0 : FdOk Tryd.prog Un 43 0 0 3 (.int .i64) := ⟨⟨_, _, Tryd.underlying43, rfl, rfl, rfl⟩, ty_3⟩
theorem fd_43_1 : FdOk Tryd.prog Un 43 1 1 3 (.int .i64) := ⟨⟨_, _, Tryd.underlying43, rfl, rfl, rfl⟩, ty_3⟩
theorem fd_43_2 : FdOk Tryd.prog Un 43 2 2 3 (.int .i64) := ⟨⟨_, _, Tryd.underlying43, rfl, rfl, rfl⟩, ty_3⟩
theorem ty_41 : TyOk Tryd.prog Un 41 (.arr 4 (.int .u64)) := tyOk_mk (c := 4) (by kernel_rfl) rfl Tryd.underlying41 rfl
theorem fd_43_3 : FdOk Tryd.prog Un 43 3 3 41 (.arr 4 (.int .u64)) := ⟨⟨_, _, Tryd.underlying43, rfl, rfl, rfl⟩, ty_41⟩
theorem fd_46_0 : FdOk Tryd.prog Un 46 0 0 3 (.int .i64) := ⟨⟨_, _, Tryd.underlying46, rfl, rfl, rfl⟩, ty_3⟩
theorem fd_46_1 : FdOk Tryd.prog Un 46 1 1 3 (.int .i64) := ⟨⟨_, _, Tryd.underlying46, rfl, rfl, rfl⟩, ty_3⟩
theorem fd_46_2 : FdOk Tryd.prog Un 46 2 2 41 (.arr 4 (.int .u64)) := ⟨⟨_, _, Tryd.underlying46, rfl, rfl, rfl⟩, ty_41⟩
theorem ty_44 : TyOk Tryd.prog Un 44 (.list (.named 6)) := tyOk_mk (c := 1) (by kernel_rfl) rfl Tryd.underlying44 rfl
theorem fd_46_3 : FdOk Tryd.prog Un 46 3 6 44 (.list (.named 6)) := ⟨⟨_, _, Tryd.underlying46, rfl, rfl, rfl⟩, ty_44⟩
theorem fd_60_0 : FdOk Tryd.prog Un 60 0 0 3 (.int .i64) := ⟨⟨_, _, Tryd.underlying60, rfl, rfl, rfl⟩, ty_3⟩
theorem fd_60_1 : FdOk Tryd.prog Un 60 1 1 3 (.int .i64) := ⟨⟨_, _, Tryd.underlying60, rfl, rfl, rfl⟩, ty_3⟩
theorem fd_60_2 : FdOk Tryd.prog Un 60 2 2 3 (.int .i64) := ⟨⟨_, _, Tryd.underlying60, rfl, rfl, rfl⟩, ty_3⟩
theorem fd_60_3 : FdOk Tryd.prog Un 60 3 3 29 (.arr 4 (.int .u64)) := ⟨⟨_, _, Tryd.underlying60, rfl, rfl, rfl⟩, ty_29⟩
theorem ty_9 : TyOk Tryd.prog Un 9 .str := tyOk_mk (c := 1) (by kernel_rfl) rfl Tryd.underlying9 rfl
theorem fd_65_0 : FdOk Tryd.prog Un 65 0 0 9 .str := ⟨⟨_, _, Tryd.underlying65, rfl, rfl, rfl⟩, ty_9⟩
theorem fd_65_1 : FdOk Tryd.prog Un 65 1 1 3 (.int .i64) := ⟨⟨_, _, Tryd.underlying65, rfl, rfl, rfl⟩, ty_3⟩
theorem fd_65_2 : FdOk Tryd.prog Un 65 2 2 3 (.int .i64) := ⟨⟨_, _, Tryd.underlying65, rfl, rfl, rfl⟩, ty_3⟩
theorem ty_4 : TyOk Tryd.prog Un 4 .bool := tyOk_mk (c := 1) (by kernel_rfl) rfl Tryd.underlying4 rfl
theorem fd_65_3 : FdOk Tryd.prog Un 65 3 3 4 .bool := ⟨⟨_, _, Tryd.underlying65, rfl, rfl, rfl⟩, ty_4⟩
theorem ty_23 : TyOk Tryd.prog Un 23 (.list (.named 3)) := tyOk_mk (c := 1) (by kernel_rfl) rfl Tryd.underlying23 rfl
theorem fd_70_0 : FdOk Tryd.prog Un 70 0 0 23 (.list (.named 3)) := ⟨⟨_, _, Tryd.underlying70, rfl, rfl, rfl⟩, ty_23⟩
theorem ty_5 : TyOk Tryd.prog Un 5 (.int .u8) := tyOk_mk (c := 1) (by kernel_rfl) rfl Tryd.underlying5 rfl
theorem fd_75_0 : FdOk Tryd.prog Un 75 0 0 5 (.int .u8) := ⟨⟨_, _, Tryd.underlying75, rfl, rfl, rfl⟩, ty_5⟩
theorem fd_75_1 : FdOk Tryd.prog Un 75 1 1 29 (.arr 4 (.int .u64)) := ⟨⟨_, _, Tryd.underlying75, rfl, rfl, rfl⟩, ty_29⟩
theorem hb_4 : HasBody Tryd.prog 4 := ⟨⟨_, Tryd.func4, by kernel_rfl, rfl⟩⟩
theorem hb_5 : HasBody Tryd.prog 5 := ⟨⟨_, Tryd.func5, by kernel_rfl, rfl⟩⟩
theorem hb_6 : HasBody Tryd.prog 6 := ⟨⟨_, Tryd.func6, by kernel_rfl, rfl⟩⟩
theorem hb_7 : HasBody Tryd.prog 7 := ⟨⟨_, Tryd.func7, by kernel_rfl, rfl⟩⟩
theorem hb_8 : HasBody Tryd.prog 8 := ⟨⟨_, Tryd.func8, by kernel_rfl, rfl⟩⟩
theorem hb_9 : HasBody Tryd.prog 9 := ⟨⟨_, Tryd.func9, by kernel_rfl, rfl⟩⟩
theorem hb_10 : HasBody Tryd.prog 10 := ⟨⟨_, Tryd.func10, by kernel_rfl, rfl⟩⟩
theorem hb_11 : HasBody Tryd.prog 11 := ⟨⟨_, Tryd.func11, by kernel_rfl, rfl⟩⟩
theorem hb_12 : HasBody Tryd.prog 12 := ⟨⟨_, Tryd.func12, by kernel_rfl, rfl⟩⟩
theorem hb_13 : HasBody Tryd.prog 13 := ⟨⟨_, Tryd.func13, by kernel_rfl, rfl⟩⟩
theorem hb_14 : HasBody Tryd.prog 14 := ⟨⟨_, Tryd.func14, by kernel_rfl, rfl⟩⟩
theorem hb_15 : HasBody Tryd.prog 15 := ⟨⟨_, Tryd.func15, by kernel_rfl, rfl⟩⟩
theorem hb_16 : HasBody Tryd.prog 16 := ⟨⟨_, Tryd.func16, by kernel_rfl, rfl⟩⟩
theorem hb_17 : HasBody Tryd.prog 17 := ⟨⟨_, Tryd.func17, by kernel_rfl, rfl⟩⟩
theorem hb_18 : HasBody Tryd.prog 18 := ⟨⟨_, Tryd.func18, by kernel_rfl, rfl⟩⟩
theorem hb_19 : HasBody Tryd.prog 19 := ⟨⟨_, Tryd.func19, by kernel_rfl, rfl⟩⟩
theorem hb_20 : HasBody Tryd.prog 20 := ⟨⟨_, Tryd.func20, by kernel_rfl, rfl⟩⟩
theorem hb_21 : HasBody Tryd.prog 21 := ⟨⟨_, Tryd.func21, by kernel_rfl, rfl⟩⟩
theorem hb_22 : HasBody Tryd.prog 22 := ⟨⟨_, Tryd.func22, by kernel_rfl, rfl⟩⟩
theorem hb_23 : HasBody Tryd.prog 23 := ⟨⟨_, Tryd.func23, by kernel_rfl, rfl⟩⟩
theorem hb_24 : HasBody Tryd.prog 24 := ⟨⟨_, Tryd.func24, by kernel_rfl, rfl⟩⟩
theorem hb_25 : HasBody Tryd.prog 25 := ⟨⟨_, Tryd.func25, by kernel_rfl, rfl⟩⟩
theorem hb_26 : HasBody Tryd.prog 26 := ⟨⟨_, Tryd.func26, by kernel_rfl, rfl⟩⟩
theorem hb_27 : HasBody Tryd.prog 27 := ⟨⟨_, Tryd.func27, by kernel_rfl, rfl⟩⟩
theorem hb_28 : HasBody Tryd.prog 28 := ⟨⟨_, Tryd.func28, by kernel_rfl, rfl⟩⟩
theorem hb_29 : HasBody Tryd.prog 29 := ⟨⟨_, Tryd.func29, by kernel_rfl, rfl⟩⟩
theorem hb_32 : HasBody Tryd.prog 32 := ⟨⟨_, Tryd.func32, by kernel_rfl, rfl⟩⟩
theorem hb_33 : HasBody Tryd.prog 33 := ⟨⟨_, Tryd.func33, by kernel_rfl, rfl⟩⟩
theorem hb_34 : HasBody Tryd.prog 34 := ⟨⟨_, Tryd.func34, by kernel_rfl, rfl⟩⟩
theorem hb_35 : HasBody Tryd.prog 35 := ⟨⟨_, Tryd.func35, by kernel_rfl, rfl⟩⟩
theorem hb_36 : HasBody Tryd.prog 36 := ⟨⟨_, Tryd.func36, by kernel_rfl, rfl⟩⟩
theorem hb_37 : HasBody Tryd.prog 37 := ⟨⟨_, Tryd.func37, by kernel_rfl, rfl⟩⟩
theorem hb_38 : HasBody Tryd.prog 38 := ⟨⟨_, Tryd.func38, by kernel_rfl, rfl⟩⟩
theorem hb_39 : HasBody Tryd.prog 39 := ⟨⟨_, Tryd.func39, by kernel_rfl, rfl⟩⟩
theorem hb_40 : HasBody Tryd.prog 40 := ⟨⟨_, Tryd.func40, by kernel_rfl, rfl⟩⟩
theorem hb_41 : HasBody Tryd.prog 41 := ⟨⟨_, Tryd.func41, by kernel_rfl, rfl⟩⟩
theorem hb_42 : HasBody Tryd.prog 42 := ⟨⟨_, Tryd.func42, by kernel_rfl, rfl⟩⟩
theorem hb_43 : HasBody Tryd.prog 43 := ⟨⟨_, Tryd.func43, by kernel_rfl, rfl⟩⟩
theorem hb_44 : HasBody Tryd.prog 44 := ⟨⟨_, Tryd.func44, by kernel_rfl, rfl⟩⟩
theorem hb_45 : HasBody Tryd.prog 45 := ⟨⟨_, Tryd.func45, by kernel_rfl, rfl⟩⟩
theorem hb_46 : HasBody Tryd.prog 46 := ⟨⟨_, Tryd.func46, by kernel_rfl, rfl⟩⟩
theorem hb_47 : HasBody Tryd.prog 47 := ⟨⟨_, Tryd.func47, by kernel_rfl, rfl⟩⟩
theorem hb_48 : HasBody Tryd.prog 48 := ⟨⟨_, Tryd.func48, by kernel_rfl, rfl⟩⟩
theorem hb_49 : HasBody Tryd.prog 49 := ⟨⟨_, Tryd.func49, by kernel_rfl, rfl⟩⟩
theorem hb_51 : HasBody Tryd.prog 51 := ⟨⟨_, Tryd.func51, by kernel_rfl, rfl⟩⟩
theorem hb_52 : HasBody Tryd.prog 52 := ⟨⟨_, Tryd.func52, by kernel_rfl, rfl⟩⟩
theorem hb_53 : HasBody Tryd.prog 53 := ⟨⟨_, Tryd.func53, by kernel_rfl, rfl⟩⟩
theorem hb_54 : HasBody Tryd.prog 54 := ⟨⟨_, Tryd.func54, by kernel_rfl, rfl⟩⟩
theorem hb_55 : HasBody Tryd.prog 55 := ⟨⟨_, Tryd.func55, by kernel_rfl, rfl⟩⟩
theorem hb_56 : HasBody Tryd.prog 56 := ⟨⟨_, Tryd.func56, by kernel_rfl, rfl⟩⟩
theorem hb_58 : HasBody Tryd.prog 58 := ⟨⟨_, Tryd.func58, by kernel_rfl, rfl⟩⟩
theorem hb_59 : HasBody Tryd.prog 59 := ⟨⟨_, Tryd.func59, by kernel_rfl, rfl⟩⟩
theorem hb_60 : HasBody Tryd.prog 60 := ⟨⟨_, Tryd.func60, by kernel_rfl, rfl⟩⟩
theorem hb_61 : HasBody Tryd.prog 61 := ⟨⟨_, Tryd.func61, by kernel_rfl, rfl⟩⟩
theorem hb_62 : HasBody Tryd.prog 62 := ⟨⟨_, Tryd.func62, by kernel_rfl, rfl⟩⟩
theorem hb_63 : HasBody Tryd.prog 63 := ⟨⟨_, Tryd.func63, by kernel_rfl, rfl⟩⟩
theorem hb_64 : HasBody Tryd.prog 64 := ⟨⟨_, Tryd.func64, by kernel_rfl, rfl⟩⟩
theorem lays_29 : lays Tryd.prog 29 = some ([.int .u64 0, .int .u64 0, .int .u64 0, .int .u64 0], (fun i => some (i * 1, 1))) := by kernel_rfl
theorem lays_32 : lays Tryd.prog 32 = some ([.int .i64 0, .int .i64 0, .int .u64 0, .int .u64 0, .int .u64 0, .int .u64 0, .slice none 0 0], (fun i => ([(0, 1), (1, 1), (2, 4), (6, 1)] : List (Nat × Nat)).toArray[i]?)) := by kernel_rfl
theorem lays_41 : lays Tryd.prog 41 = some ([.int .u64 0, .int .u64 0, .int .u64 0, .int .u64 0], (fun i => some (i * 1, 1))) := by kernel_rfl
theorem lays_43 : lays Tryd.prog 43 = some ([.int .i64 0, .int .i64 0, .int .i64 0, .int .u64 0, .int .u64 0, .int .u64 0, .int .u64 0], (fun i => ([(0, 1), (1, 1), (2, 1), (3, 4)] : List (Nat × Nat)).toArray[i]?)) := by kernel_rfl
theorem lays_46 : lays Tryd.prog 46 = some ([.int .i64 0, .int .i64 0, .int .u64 0, .int .u64 0, .int .u64 0, .int .u64 0, .slice none 0 0], (fun i => ([(0, 1), (1, 1), (2, 4), (6, 1)] : List (Nat × Nat)).toArray[i]?)) := by kernel_rfl
theorem lays_60 : lays Tryd.prog 60 = some ([.int .i64 0, .int .i64 0, .int .i64 0, .int .u64 0, .int .u64 0, .int .u64 0, .int .u64 0], (fun i => ([(0, 1), (1, 1), (2, 1), (3, 4)] : List (Nat × Nat)).toArray[i]?)) := by kernel_rfl
theorem lays_65 : lays Tryd.prog 65 = some ([.string ByteArray.empty, .int .i64 0, .int .i64 0, .bool false], (fun i => ([(0, 1), (1, 1), (2, 1), (3, 1)] : List (Nat × Nat)).toArray[i]?)) := by kernel_rfl
theorem lays_75 : lays Tryd.prog 75 = some ([.int .u8 0, .int .u64 0, .int .u64 0, .int .u64 0, .int .u64 0], (fun i => ([(0, 1), (1, 4)] : List (Nat × Nat)).toArray[i]?)) := by kernel_rfl
theorem lays_78 : lays Tryd.prog 78 = some ([.bool false, .bool false, .bool false, .bool false, .bool false, .bool false, .bool false, .bool false, .bool false, .bool false, .bool false, .bool false, .bool false, .bool false, .bool false, .bool false, .bool false, .bool false, .bool false, .bool false, .bool false, .bool false, .bool false, .bool false, .bool false, .bool false, .bool false, .bool false, .bool false, .bool false, .bool false, .bool false, .bool false, .bool false, .bool false, .bool false, .bool false, .bool false, .bool false, .bool false, .bool false, .bool false, .bool false, .bool false, .bool false, .bool false, .bool false, .bool false, .bool false, .bool false, .bool false, .bool false, .bool false, .bool false, .bool false, .bool false, .bool false, .bool false, .bool false, .bool false, .bool false, .bool false, .bool false, .bool false, .bool false, .bool false, .bool false, .bool false, .bool false, .bool false, .bool false, .bool false, .bool false, .bool false, .bool false, .bool false, .bool false, .bool false, .bool false, .bool false, .bool false, .bool false, .bool false, .bool false, .bool false, .bool false, .bool false, .bool false, .bool false, .bool false, .bool false, .bool false, .bool false, .bool false, .bool false, .bool false, .bool false, .bool false, .bool false, .bool false, .bool false, .bool false, .bool false, .bool false, .bool false, .bool false, .bool false, .bool false, .bool false, .bool false, .bool false, .bool false, .bool false, .bool false, .bool false, .bool false, .bool false, .bool false, .bool false, .bool false, .bool false, .bool false, .bool false, .bool false, .bool false, .bool false, .bool false, .bool false, .bool false, .bool false, .bool false, .bool false, .bool false, .bool false, .bool false, .bool false, .bool false, .bool false, .bool false, .bool false, .bool false, .bool false, .bool false, .bool false, .bool false, .bool false, .bool false, .bool false, .bool false, .bool false, .bool false, .bool false, .bool false, .bool false, .bool false, .bool false, .bool false, .bool false, .bool false, .bool false, .bool false, .bool false, .bool false, .bool false, .bool false, .bool false, .bool false, .bool false, .bool false, .bool false, .bool false, .bool false, .bool false, .bool false, .bool false, .bool false, .bool false, .bool false, .bool false, .bool false, .bool false, .bool false, .bool false, .bool false, .bool false, .bool false, .bool false, .bool false, .bool false, .bool false, .bool false, .bool false, .bool false, .bool false, .bool false, .bool false, .bool false, .bool false, .bool false, .bool false, .bool false, .bool false, .bool false, .bool false, .bool false, .bool false, .bool false, .bool false, .bool false, .bool false, .bool false, .bool false, .bool false, .bool false, .bool false, .bool false, .bool false, .bool false, .bool false, .bool false, .bool false, .bool false, .bool false, .bool false, .bool false, .bool false, .bool false, .bool false, .bool false, .bool false, .bool false, .bool false, .bool false, .bool false, .bool false, .bool false, .bool false, .bool false, .bool false, .bool false, .bool false, .bool false, .bool false, .bool false, .bool false, .bool false, .bool false, .bool false, .bool false, .bool false, .bool false, .bool false, .bool false, .bool false, .bool false, .bool false], (fun i => some (i * 1, 1))) := by kernel_rfl
theorem ty_43 : TyOk Tryd.prog Un 43 (.named 3) := tyOk_mk (c := 7) (by kernel_rfl) rfl Tryd.underlying43 rfl
theorem sl_23 : SlOk Tryd.prog Un 23 43 (.named 3) := ⟨Tryd.underlying23, ty_43⟩
theorem row_23 : RowOk Tryd.prog Un 23 43 (.named 3) 56 := rowOk_mk (c := 7) sl_23 (by kernel_rfl) rfl (by decide)
theorem ty_32 : TyOk Tryd.prog Un 32 (.named 4) := tyOk_mk (c := 7) (by kernel_rfl) rfl Tryd.underlying32 rfl
theorem sl_30 : SlOk Tryd.prog Un 30 32 (.named 4) := ⟨Tryd.underlying30, ty_32⟩
theorem row_30 : RowOk Tryd.prog Un 30 32 (.named 4) 72 := rowOk_mk (c := 7) sl_30 (by kernel_rfl) rfl (by decide)
theorem ty_60 : TyOk Tryd.prog Un 60 (.named 5) := tyOk_mk (c := 7) (by kernel_rfl) rfl Tryd.underlying60 rfl
theorem sl_36 : SlOk Tryd.prog Un 36 60 (.named 5) := ⟨Tryd.underlying36, ty_60⟩
theorem row_36 : RowOk Tryd.prog Un 36 60 (.named 5) 56 := rowOk_mk (c := 7) sl_36 (by kernel_rfl) rfl (by decide)
theorem ty_46 : TyOk Tryd.prog Un 46 (.named 6) := tyOk_mk (c := 7) (by kernel_rfl) rfl Tryd.underlying46 rfl
theorem sl_44 : SlOk Tryd.prog Un 44 46 (.named 6) := ⟨Tryd.underlying44, ty_46⟩
theorem row_44 : RowOk Tryd.prog Un 44 46 (.named 6) 72 := rowOk_mk (c := 7) sl_44 (by kernel_rfl) rfl (by decide)
theorem ty_75 : TyOk Tryd.prog Un 75 (.named 7) := tyOk_mk (c := 5) (by kernel_rfl) rfl Tryd.underlying75 rfl
theorem sl_50 : SlOk Tryd.prog Un 50 75 (.named 7) := ⟨Tryd.underlying50, ty_75⟩
theorem row_50 : RowOk Tryd.prog Un 50 75 (.named 7) 40 := rowOk_mk (c := 5) sl_50 (by kernel_rfl) rfl (by decide)
theorem ty_25 : TyOk Tryd.prog Un 25 .err := tyOk_mk (c := 1) (by kernel_rfl) rfl Tryd.underlying25 rfl
theorem sl_56 : SlOk Tryd.prog Un 56 25 .err := ⟨Tryd.underlying56, ty_25⟩
theorem row_56 : RowOk Tryd.prog Un 56 25 .err 16 := rowOk_mk (c := 1) sl_56 (by kernel_rfl) rfl (by decide)
theorem sl_94 : SlOk Tryd.prog Un 94 5 (.int .u8) := ⟨Tryd.underlying94, ty_5⟩
theorem row_94 : RowOk Tryd.prog Un 94 5 (.int .u8) 1 := rowOk_mk (c := 1) sl_94 (by kernel_rfl) rfl (by decide)
theorem sl_95 : SlOk Tryd.prog Un 95 4 .bool := ⟨Tryd.underlying95, ty_4⟩
theorem row_95 : RowOk Tryd.prog Un 95 4 .bool 1 := rowOk_mk (c := 1) sl_95 (by kernel_rfl) rfl (by decide)
theorem sl_110 : SlOk Tryd.prog Un 110 3 (.int .i64) := ⟨Tryd.underlying110, ty_3⟩
theorem row_110 : RowOk Tryd.prog Un 110 3 (.int .i64) 8 := rowOk_mk (c := 1) sl_110 (by kernel_rfl) rfl (by decide)
theorem ty_28 : TyOk Tryd.prog Un 28 (.int .u64) := tyOk_mk (c := 1) (by kernel_rfl) rfl Tryd.underlying28 rfl
theorem ty_65 : TyOk Tryd.prog Un 65 (.named 8) := tyOk_mk (c := 4) (by kernel_rfl) rfl Tryd.underlying65 rfl
theorem ty_78 : TyOk Tryd.prog Un 78 (.arr 256 .bool) := tyOk_mk (c := 256) (by kernel_rfl) rfl Tryd.underlying78 rfl
noncomputable def TB : Tab Un where
  un := Tryd.prog.underlying
  ty := [(3, .int .i64), (4, .bool), (5, .int .u8), (9, .str), (23, .list (.named 3)), (25, .err), (28, .int .u64), (29, .arr 4 (.int .u64)), (30, .list (.named 4)), (32, .named 4), (41, .arr 4 (.int .u64)), (43, .named 3), (44, .list (.named 6)), (46, .named 6), (60, .named 5), (65, .named 8), (75, .named 7), (78, .arr 256 .bool)]
  sl := [(23, 43, .named 3), (30, 32, .named 4), (36, 60, .named 5), (44, 46, .named 6), (50, 75, .named 7), (56, 25, .err), (94, 5, .int .u8), (95, 4, .bool), (110, 3, .int .i64)]
  fd := [(32, 0, 0, .int .i64), (32, 1, 1, .int .i64), (32, 2, 2, .arr 4 (.int .u64)), (32, 3, 6, .list (.named 4)), (43, 0, 0, .int .i64), (43, 1, 1, .int .i64), (43, 2, 2, .int .i64), (43, 3, 3, .arr 4 (.int .u64)), (46, 0, 0, .int .i64), (46, 1, 1, .int .i64), (46, 2, 2, .arr 4 (.int .u64)), (46, 3, 6, .list (.named 6)), (60, 0, 0, .int .i64), (60, 1, 1, .int .i64), (60, 2, 2, .int .i64), (60, 3, 3, .arr 4 (.int .u64)), (65, 0, 0, .str), (65, 1, 1, .int .i64), (65, 2, 2, .int .i64), (65, 3, 3, .bool), (70, 0, 0, .list (.named 3)), (75, 0, 0, .int .u8), (75, 1, 1, .arr 4 (.int .u64))]
  ro := [(23, 43, .named 3, 56), (30, 32, .named 4, 72), (36, 60, .named 5, 56), (44, 46, .named 6, 72), (50, 75, .named 7, 40), (56, 25, .err, 16), (94, 5, .int .u8, 1), (95, 4, .bool, 1), (110, 3, .int .i64, 8)]
  az := [(29, [.p (.arr 4 (.int .u64)) ((List.replicate 4 (0 : Int)) : List Int)]), (32, [.p (.int .i64) (0 : Int), .p (.int .i64) (0 : Int), .p (.arr 4 (.int .u64)) ((List.replicate 4 (0 : Int)) : List Int), .p (.list (.named 4)) ([] : List T_millwrightref07_Node)]), (41, [.p (.arr 4 (.int .u64)) ((List.replicate 4 (0 : Int)) : List Int)]), (43, [.p (.int .i64) (0 : Int), .p (.int .i64) (0 : Int), .p (.int .i64) (0 : Int), .p (.arr 4 (.int .u64)) ((List.replicate 4 (0 : Int)) : List Int)]), (46, [.p (.int .i64) (0 : Int), .p (.int .i64) (0 : Int), .p (.arr 4 (.int .u64)) ((List.replicate 4 (0 : Int)) : List Int), .p (.list (.named 6)) ([] : List T_rex_Node)]), (70, [.lit (.slice none 0 0)]), (75, [.p (.int .u8) (0 : Int), .p (.arr 4 (.int .u64)) ((List.replicate 4 (0 : Int)) : List Int)]), (78, [.p (.arr 256 .bool) ((List.replicate 256 false) : List Bool)])]
  bz := [(29, [.p (.arr 4 (.int .u64)) ((List.replicate 4 (0 : Int)) : List Int)], [(0, 1, .int .u64), (1, 1, .int .u64), (2, 1, .int .u64), (3, 1, .int .u64)]), (32, [.p (.int .i64) (0 : Int), .p (.int .i64) (0 : Int), .p (.arr 4 (.int .u64)) ((List.replicate 4 (0 : Int)) : List Int), .p (.list (.named 4)) ([] : List T_millwrightref07_Node)], [(0, 1, .int .i64), (1, 1, .int .i64), (2, 4, .arr 4 (.int .u64)), (6, 1, .list (.named 4))]), (41, [.p (.arr 4 (.int .u64)) ((List.replicate 4 (0 : Int)) : List Int)], [(0, 1, .int .u64), (1, 1, .int .u64), (2, 1, .int .u64), (3, 1, .int .u64)]), (43, [.p (.int .i64) (0 : Int), .p (.int .i64) (0 : Int), .p (.int .i64) (0 : Int), .p (.arr 4 (.int .u64)) ((List.replicate 4 (0 : Int)) : List Int)], [(0, 1, .int .i64), (1, 1, .int .i64), (2, 1, .int .i64), (3, 4, .arr 4 (.int .u64))]), (46, [.p (.int .i64) (0 : Int), .p (.int .i64) (0 : Int), .p (.arr 4 (.int .u64)) ((List.replicate 4 (0 : Int)) : List Int), .p (.list (.named 6)) ([] : List T_rex_Node)], [(0, 1, .int .i64), (1, 1, .int .i64), (2, 4, .arr 4 (.int .u64)), (6, 1, .list (.named 6))]), (60, [.p (.int .i64) (0 : Int), .p (.int .i64) (0 : Int), .p (.int .i64) (0 : Int), .p (.arr 4 (.int .u64)) ((List.replicate 4 (0 : Int)) : List Int)], [(0, 1, .int .i64), (1, 1, .int .i64), (2, 1, .int .i64), (3, 4, .arr 4 (.int .u64))]), (65, [.p .str ([] : List UInt8), .p (.int .i64) (0 : Int), .p (.int .i64) (0 : Int), .p .bool false], [(0, 1, .str), (1, 1, .int .i64), (2, 1, .int .i64), (3, 1, .bool)]), (75, [.p (.int .u8) (0 : Int), .p (.arr 4 (.int .u64)) ((List.replicate 4 (0 : Int)) : List Int)], [(0, 1, .int .u8), (1, 4, .arr 4 (.int .u64))]), (78, [.p (.arr 256 .bool) ((List.replicate 256 false) : List Bool)], [(0, 1, .bool), (1, 1, .bool), (2, 1, .bool), (3, 1, .bool), (4, 1, .bool), (5, 1, .bool), (6, 1, .bool), (7, 1, .bool), (8, 1, .bool), (9, 1, .bool), (10, 1, .bool), (11, 1, .bool), (12, 1, .bool), (13, 1, .bool), (14, 1, .bool), (15, 1, .bool), (16, 1, .bool), (17, 1, .bool), (18, 1, .bool), (19, 1, .bool), (20, 1, .bool), (21, 1, .bool), (22, 1, .bool), (23, 1, .bool), (24, 1, .bool), (25, 1, .bool), (26, 1, .bool), (27, 1, .bool), (28, 1, .bool), (29, 1, .bool), (30, 1, .bool), (31, 1, .bool), (32, 1, .bool), (33, 1, .bool), (34, 1, .bool), (35, 1, .bool), (36, 1, .bool), (37, 1, .bool), (38, 1, .bool), (39, 1, .bool), (40, 1, .bool), (41, 1, .bool), (42, 1, .bool), (43, 1, .bool), (44, 1, .bool), (45, 1, .bool), (46, 1, .bool), (47, 1, .bool), (48, 1, .bool), (49, 1, .bool), (50, 1, .bool), (51, 1, .bool), (52, 1, .bool), (53, 1, .bool), (54, 1, .bool), (55, 1, .bool), (56, 1, .bool), (57, 1, .bool), (58, 1, .bool), (59, 1, .bool), (60, 1, .bool), (61, 1, .bool), (62, 1, .bool), (63, 1, .bool), (64, 1, .bool), (65, 1, .bool), (66, 1, .bool), (67, 1, .bool), (68, 1, .bool), (69, 1, .bool), (70, 1, .bool), (71, 1, .bool), (72, 1, .bool), (73, 1, .bool), (74, 1, .bool), (75, 1, .bool), (76, 1, .bool), (77, 1, .bool), (78, 1, .bool), (79, 1, .bool), (80, 1, .bool), (81, 1, .bool), (82, 1, .bool), (83, 1, .bool), (84, 1, .bool), (85, 1, .bool), (86, 1, .bool), (87, 1, .bool), (88, 1, .bool), (89, 1, .bool), (90, 1, .bool), (91, 1, .bool), (92, 1, .bool), (93, 1, .bool), (94, 1, .bool), (95, 1, .bool), (96, 1, .bool), (97, 1, .bool), (98, 1, .bool), (99, 1, .bool), (100, 1, .bool), (101, 1, .bool), (102, 1, .bool), (103, 1, .bool), (104, 1, .bool), (105, 1, .bool), (106, 1, .bool), (107, 1, .bool), (108, 1, .bool), (109, 1, .bool), (110, 1, .bool), (111, 1, .bool), (112, 1, .bool), (113, 1, .bool), (114, 1, .bool), (115, 1, .bool), (116, 1, .bool), (117, 1, .bool), (118, 1, .bool), (119, 1, .bool), (120, 1, .bool), (121, 1, .bool), (122, 1, .bool), (123, 1, .bool), (124, 1, .bool), (125, 1, .bool), (126, 1, .bool), (127, 1, .bool), (128, 1, .bool), (129, 1, .bool), (130, 1, .bool), (131, 1, .bool), (132, 1, .bool), (133, 1, .bool), (134, 1, .bool), (135, 1, .bool), (136, 1, .bool), (137, 1, .bool), (138, 1, .bool), (139, 1, .bool), (140, 1, .bool), (141, 1, .bool), (142, 1, .bool), (143, 1, .bool), (144, 1, .bool), (145, 1, .bool), (146, 1, .bool), (147, 1, .bool), (148, 1, .bool), (149, 1, .bool), (150, 1, .bool), (151, 1, .bool), (152, 1, .bool), (153, 1, .bool), (154, 1, .bool), (155, 1, .bool), (156, 1, .bool), (157, 1, .bool), (158, 1, .bool), (159, 1, .bool), (160, 1, .bool), (161, 1, .bool), (162, 1, .bool), (163, 1, .bool), (164, 1, .bool), (165, 1, .bool), (166, 1, .bool), (167, 1, .bool), (168, 1, .bool), (169, 1, .bool), (170, 1, .bool), (171, 1, .bool), (172, 1, .bool), (173, 1, .bool), (174, 1, .bool), (175, 1, .bool), (176, 1, .bool), (177, 1, .bool), (178, 1, .bool), (179, 1, .bool), (180, 1, .bool), (181, 1, .bool), (182, 1, .bool), (183, 1, .bool), (184, 1, .bool), (185, 1, .bool), (186, 1, .bool), (187, 1, .bool), (188, 1, .bool), (189, 1, .bool), (190, 1, .bool), (191, 1, .bool), (192, 1, .bool), (193, 1, .bool), (194, 1, .bool), (195, 1, .bool), (196, 1, .bool), (197, 1, .bool), (198, 1, .bool), (199, 1, .bool), (200, 1, .bool), (201, 1, .bool), (202, 1, .bool), (203, 1, .bool), (204, 1, .bool), (205, 1, .bool), (206, 1, .bool), (207, 1, .bool), (208, 1, .bool), (209, 1, .bool), (210, 1, .bool), (211, 1, .bool), (212, 1, .bool), (213, 1, .bool), (214, 1, .bool), (215, 1, .bool), (216, 1, .bool), (217, 1, .bool), (218, 1, .bool), (219, 1, .bool), (220, 1, .bool), (221, 1, .bool), (222, 1, .bool), (223, 1, .bool), (224, 1, .bool), (225, 1, .bool), (226, 1, .bool), (227, 1, .bool), (228, 1, .bool), (229, 1, .bool), (230, 1, .bool), (231, 1, .bool), (232, 1, .bool), (233, 1, .bool), (234, 1, .bool), (235, 1, .bool), (236, 1, .bool), (237, 1, .bool), (238, 1, .bool), (239, 1, .bool), (240, 1, .bool), (241, 1, .bool), (242, 1, .bool), (243, 1, .bool), (244, 1, .bool), (245, 1, .bool), (246, 1, .bool), (247, 1, .bool), (248, 1, .bool), (249, 1, .bool), (250, 1, .bool), (251, 1, .bool), (252, 1, .bool), (253, 1, .bool), (254, 1, .bool), (255, 1, .bool)])]
  hb := [4, 5, 6, 7, 8, 9, 10, 11, 12, 13, 14, 15, 16, 17, 18, 19, 20, 21, 22, 23, 24, 25, 26, 27, 28, 29, 32, 33, 34, 35, 36, 37, 38, 39, 40, 41, 42, 43, 44, 45, 46, 47, 48, 49, 51, 52, 53, 54, 55, 56, 58, 59, 60, 61, 62, 63, 64]
theorem TBok : TbOk Tryd.prog Un TB where
  un := fun _ _ h => h
  ty := (.c ty_3 (.c ty_4 (.c ty_5 (.c ty_9 (.c ty_23 (.c ty_25 (.c ty_28 (.c ty_29 (.c ty_30 (.c ty_32 (.c ty_41 (.c ty_43 (.c ty_44 (.c ty_46 (.c ty_60 (.c ty_65 (.c ty_75 (.c ty_78 AllP.z))))))))))))))))))
  sl := (.c sl_23 (.c sl_30 (.c sl_36 (.c sl_44 (.c sl_50 (.c sl_56 (.c sl_94 (.c sl_95 (.c sl_110 AllP.z)))))))))
  fd := (.c ⟨_, fd_32_0⟩ (.c ⟨_, fd_32_1⟩ (.c ⟨_, fd_32_2⟩ (.c ⟨_, fd_32_3⟩ (.c ⟨_, fd_43_0⟩ (.c ⟨_, fd_43_1⟩ (.c ⟨_, fd_43_2⟩ (.c ⟨_, fd_43_3⟩ (.c ⟨_, fd_46_0⟩ (.c ⟨_, fd_46_1⟩ (.c ⟨_, fd_46_2⟩ (.c ⟨_, fd_46_3⟩ (.c ⟨_, fd_60_0⟩ (.c ⟨_, fd_60_1⟩ (.c ⟨_, fd_60_2⟩ (.c ⟨_, fd_60_3⟩ (.c ⟨_, fd_65_0⟩ (.c ⟨_, fd_65_1⟩ (.c ⟨_, fd_65_2⟩ (.c ⟨_, fd_65_3⟩ (.c ⟨_, fd_70_0⟩ (.c ⟨_, fd_75_0⟩ (.c ⟨_, fd_75_1⟩ AllP.z)))))))))))))))))))))))
  ro := (.c row_23 (.c row_30 (.c row_36 (.c row_44 (.c row_50 (.c row_56 (.c row_94 (.c row_95 (.c row_110 AllP.z)))))))))
  mp := AllP.z
  zd := AllP.z
  az := (.c az_29 (.c az_32 (.c az_41 (.c az_43 (.c az_46 (.c az_70 (.c az_75 (.c az_78 AllP.z))))))))
  bz := (.c ⟨_, _, lays_29, (.data (rd_zeros _ _) .nil), by kernel_rfl⟩ (.c ⟨_, _, lays_32, (.data (fun _ _ _ => .int _ _) (.data (fun _ _ _ => .int _ _) (.data (rd_zeros _ _) (.data (fun _ _ _ => .lnil _) .nil)))), by kernel_rfl⟩ (.c ⟨_, _, lays_41, (.data (rd_zeros _ _) .nil), by kernel_rfl⟩ (.c ⟨_, _, lays_43, (.data (fun _ _ _ => .int _ _) (.data (fun _ _ _ => .int _ _) (.data (fun _ _ _ => .int _ _) (.data (rd_zeros _ _) .nil)))), by kernel_rfl⟩ (.c ⟨_, _, lays_46, (.data (fun _ _ _ => .int _ _) (.data (fun _ _ _ => .int _ _) (.data (rd_zeros _ _) (.data (fun _ _ _ => .lnil _) .nil)))), by kernel_rfl⟩ (.c ⟨_, _, lays_60, (.data (fun _ _ _ => .int _ _) (.data (fun _ _ _ => .int _ _) (.data (fun _ _ _ => .int _ _) (.data (rd_zeros _ _) .nil)))), by kernel_rfl⟩ (.c ⟨_, _, lays_65, (.data (fun _ _ _ => rd_str0) (.data (fun _ _ _ => .int _ _) (.data (fun _ _ _ => .int _ _) (.data (fun _ _ _ => .bool _) .nil)))), by kernel_rfl⟩ (.c ⟨_, _, lays_75, (.data (fun _ _ _ => .int _ _) (.data (rd_zeros _ _) .nil)), by kernel_rfl⟩ (.c ⟨_, _, lays_78, (.data (rd_falses _) .nil), by kernel_rfl⟩ AllP.z)))))))))
  hb := (.c hb_4 (.c hb_5 (.c hb_6 (.c hb_7 (.c hb_8 (.c hb_9 (.c hb_10 (.c hb_11 (.c hb_12 (.c hb_13 (.c hb_14 (.c hb_15 (.c hb_16 (.c hb_17 (.c hb_18 (.c hb_19 (.c hb_20 (.c hb_21 (.c hb_22 (.c hb_23 (.c hb_24 (.c hb_25 (.c hb_26 (.c hb_27 (.c hb_28 (.c hb_29 (.c hb_32 (.c hb_33 (.c hb_34 (.c hb_35 (.c hb_36 (.c hb_37 (.c hb_38 (.c hb_39 (.c hb_40 (.c hb_41 (.c hb_42 (.c hb_43 (.c hb_44 (.c hb_45 (.c hb_46 (.c hb_47 (.c hb_48 (.c hb_49 (.c hb_51 (.c hb_52 (.c hb_53 (.c hb_54 (.c hb_55 (.c hb_56 (.c hb_58 (.c hb_59 (.c hb_60 (.c hb_61 (.c hb_62 (.c hb_63 (.c hb_64 AllP.z)))))))))))))))))))))))))))))))))))))))))))))))))))))))))
theorem rSC {O : Out} {B : Base} {id N : Nat} {ops : Array Oper} {st : St Un} {Q : PostQ Un} (x : RX Un O Tryd.prog ops) (ts ns : List Nat) (hN : B.n = N) (h1 : okS TB x st N = true) (h2 : obL TB x st = obR TB x st)  {st2 : St Un} (hcv : Conv Un O (nxS TB x st ts ns) st2) (hQ : Q .normal st2) : WpC Un O Tryd.prog B (.region id ops false) st Q := WpC.rS TBok x ts ns hN h1 h2 rfl hcv hQ
theorem rS {O : Out} {B : Base} {id N : Nat} {ops : Array Oper} {st : St Un} {Q : PostQ Un} (x : RX Un O Tryd.prog ops) (ts ns : List Nat) (hN : B.n = N) (h1 : okS TB x st N = true) (h2 : obL TB x st = obR TB x st)  (hQ : Q .normal (nxS TB x st ts ns)) : WpC Un O Tryd.prog B (.region id ops false) st Q := WpC.rS TBok x ts ns hN h1 h2 rfl (Conv.refl _) hQ
theorem rAC {O : Out} {B : Base} {id N : Nat} {ops : Array Oper} {st : St Un} {Q : PostQ Un} (x : RX Un O Tryd.prog ops) (ts ns : List Nat) (hN : B.n = N) (h1 : okS TB x st N = true) (h2 : obL TB x st = obR TB x st) (h4 : raS TB x st = true)  {st2 : St Un} (hcv : Conv Un O (nxS TB x st ts ns) st2) (hQ : Q .normal st2) : WpC Un O Tryd.prog B (.region id ops true) st Q := WpC.rA TBok mixed x ts ns hN h1 h2 h4 rfl hcv hQ
theorem rA {O : Out} {B : Base} {id N : Nat} {ops : Array Oper} {st : St Un} {Q : PostQ Un} (x : RX Un O Tryd.prog ops) (ts ns : List Nat) (hN : B.n = N) (h1 : okS TB x st N = true) (h2 : obL TB x st = obR TB x st) (h4 : raS TB x st = true)  (hQ : Q .normal (nxS TB x st ts ns)) : WpC Un O Tryd.prog B (.region id ops true) st Q := WpC.rA TBok mixed x ts ns hN h1 h2 h4 rfl (Conv.refl _) hQ
theorem cS {O : Out} {st : St Un} (l : List (CV Un O)) (h1 : cvOk l st = true) (h2 : cvL l st = cvR l st) : Conv Un O st (cvN l st) := Conv.S h1 h2
theorem tS : type_of% (@WpC.tS Un) := @WpC.tS Un
theorem eR {O : Out} {fn : Func} {c : CSpec Un} {st : St Un} (h1 : (resD TB st fn.results.toList).map resOf = some c.r) (h2 : (c.bs'.map fun x => lookA st.hp x.1) = c.bs'.map fun x => some x.2) : Go.AM.Ends Un O Tryd.prog fn c .ret st := ends_retS TBok h1 h2
theorem eN {O : Out} {fn : Func} {c : CSpec Un} {st : St Un} (h1 : (resD TB st fn.results.toList).map resOf = some c.r) (h2 : (c.bs'.map fun x => lookA st.hp x.1) = c.bs'.map fun x => some x.2) : Go.AM.Ends Un O Tryd.prog fn c .normal st := ends_normalS TBok h1 h2

theorem cvR : type_of% (@Conv.refl Un) := @Conv.refl Un
theorem cvK : type_of% (@Conv.keep Un) := @Conv.keep Un
theorem sqJ : type_of% (@WpC.seqJ Un) := @WpC.seqJ Un
theorem tnU : type_of% (@thenQ_normal Un) := @thenQ_normal Un
end Go.Proofs.YtpcobejkpbalcaaDoor
