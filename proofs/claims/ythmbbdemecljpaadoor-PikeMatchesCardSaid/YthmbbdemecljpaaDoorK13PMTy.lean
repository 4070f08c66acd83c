/- A part of the proof of a given law: PMTy. Own work, printed in part by a program of mine. -/
import Derived.Test.YthmbbdemecljpaaDoorK13AmR7
import Derived.Test.YthmbbdemecljpaaDoorProg
namespace Go.Proofs.YthmbbdemecljpaaDoor
open Go Go.AM
set_option linter.unusedVariables false
set_option linter.unusedSimpArgs false
set_option maxRecDepth 100000
structure T_runtime_boundsError where
  f_x : Int
  f_y : Int
  f_signed : Bool
  f_code : Int
  deriving Inhabited
structure T_runtime_errorAddressString where
  f_msg : List UInt8
  f_addr : Int
  deriving Inhabited
structure T_prog_Instr where
  f_Op : Int
  f_X : Int
  f_Y : Int
  f_Set : List Int
  deriving Inhabited
inductive T_rex_Node where
  | mk (f_Kind : Int) (f_Index : Int) (f_Set : List Int) (f_Kids : List T_rex_Node)
def T_rex_Node.f_Kind : T_rex_Node → Int | .mk x0 _ _ _ => x0
def T_rex_Node.f_Index : T_rex_Node → Int | .mk _ x1 _ _ => x1
def T_rex_Node.f_Set : T_rex_Node → List Int | .mk _ _ x2 _ => x2
def T_rex_Node.f_Kids : T_rex_Node → List T_rex_Node | .mk _ _ _ x3 => x3
inductive T_millwrightref07_Node where
  | mk (f_Kind : Int) (f_Index : Int) (f_Set : List Int) (f_Kids : List T_millwrightref07_Node)
def T_millwrightref07_Node.f_Kind : T_millwrightref07_Node → Int | .mk x0 _ _ _ => x0
def T_millwrightref07_Node.f_Index : T_millwrightref07_Node → Int | .mk _ x1 _ _ => x1
def T_millwrightref07_Node.f_Set : T_millwrightref07_Node → List Int | .mk _ _ x2 _ => x2
def T_millwrightref07_Node.f_Kids : T_millwrightref07_Node → List T_millwrightref07_Node | .mk _ _ _ x3 => x3
structure T_millwrightref08_Instr where
  f_Op : Int
  f_X : Int
  f_Y : Int
  f_Set : List Int
  deriving Inhabited
structure T_millwrightref07_sign where
  f_Mark : Int
  f_Set : List Int
  deriving Inhabited
structure T_prog_writer where
  f_code : List T_prog_Instr
  deriving Inhabited
structure T_pike_thread where
  f_at : Int
  f_kept : List Int
  deriving Inhabited
structure T_millwrightref09_search where
  f_p : List T_millwrightref08_Instr
  f_s : List UInt8
  f_been : List Bool
  deriving Inhabited
structure T_rex_parser where
  f_s : List UInt8
  f_at : Int
  f_groups : Int
  f_bad : Bool
  deriving Inhabited
structure T_reflectlite_ValueError where
  f_Method : List UInt8
  f_Kind : Int
  deriving Inhabited
structure T_errors_errorString where
  f_s : List UInt8
  deriving Inhabited
structure T_abi_UncommonType where
  f_PkgPath : Int
  f_Mcount : Int
  f_Xcount : Int
  f_Moff : Int
  f_blank4 : Int
  deriving Inhabited
structure T_abi_Method where
  f_Name : Int
  f_Mtyp : Int
  f_Ifn : Int
  f_Tfn : Int
  deriving Inhabited
def UnT : Nat → Type := fun n => match n with | 0 => T_runtime_boundsError | 1 => T_runtime_errorAddressString | 2 => Unit | 3 => T_prog_Instr | 4 => T_rex_Node | 5 => T_millwrightref07_Node | 6 => T_millwrightref08_Instr | 7 => T_millwrightref07_sign | 8 => T_prog_writer | 9 => T_pike_thread | 10 => Unit | 11 => T_millwrightref09_search | 12 => T_rex_parser | 13 => Unit | 14 => Unit | 15 => Unit | 16 => Unit | 17 => T_reflectlite_ValueError | 18 => T_errors_errorString | 19 => T_abi_UncommonType | 20 => T_abi_Method | _ + 21 => Unit
def UnB : Nat → Ty := fun n => match n with | 0 => (.pair (.int .i64) (.pair (.int .i64) (.pair .bool (.pair (.int .u8) .unit)))) | 1 => (.pair .str (.pair (.int .u64) .unit)) | 2 => .unit | 3 => (.pair (.int .i64) (.pair (.int .i64) (.pair (.int .i64) (.pair (.arr 4 (.int .u64)) .unit)))) | 4 => (.pair (.int .i64) (.pair (.int .i64) (.pair (.arr 4 (.int .u64)) (.pair (.list (.named 4)) .unit)))) | 5 => (.pair (.int .i64) (.pair (.int .i64) (.pair (.arr 4 (.int .u64)) (.pair (.list (.named 5)) .unit)))) | 6 => (.pair (.int .i64) (.pair (.int .i64) (.pair (.int .i64) (.pair (.arr 4 (.int .u64)) .unit)))) | 7 => (.pair (.int .u8) (.pair (.arr 4 (.int .u64)) .unit)) | 8 => (.pair (.list (.named 3)) .unit) | 9 => (.pair (.int .i64) (.pair (.arr 20 (.int .i64)) .unit)) | 10 => .unit | 11 => (.pair (.list (.named 6)) (.pair .str (.pair (.list .bool) .unit))) | 12 => (.pair .str (.pair (.int .i64) (.pair (.int .i64) (.pair .bool .unit)))) | 13 => .unit | 14 => .unit | 15 => .unit | 16 => .unit | 17 => (.pair .str (.pair (.int .u8) .unit)) | 18 => (.pair .str .unit) | 19 => (.pair (.int .i32) (.pair (.int .u16) (.pair (.int .u16) (.pair (.int .u32) (.pair (.int .u32) .unit))))) | 20 => (.pair (.int .i32) (.pair (.int .i32) (.pair (.int .i32) (.pair (.int .i32) .unit)))) | _ + 21 => .unit
def UnOut : (n : Nat) → UnT n → (UnB n).den UnT := fun n => match n with | 0 => fun x => (x.f_x, x.f_y, x.f_signed, x.f_code, ()) | 1 => fun x => (x.f_msg, x.f_addr, ()) | 2 => fun _ => () | 3 => fun x => (x.f_Op, x.f_X, x.f_Y, x.f_Set, ()) | 4 => fun x => (x.f_Kind, x.f_Index, x.f_Set, x.f_Kids, ()) | 5 => fun x => (x.f_Kind, x.f_Index, x.f_Set, x.f_Kids, ()) | 6 => fun x => (x.f_Op, x.f_X, x.f_Y, x.f_Set, ()) | 7 => fun x => (x.f_Mark, x.f_Set, ()) | 8 => fun x => (x.f_code, ()) | 9 => fun x => (x.f_at, x.f_kept, ()) | 10 => fun _ => () | 11 => fun x => (x.f_p, x.f_s, x.f_been, ()) | 12 => fun x => (x.f_s, x.f_at, x.f_groups, x.f_bad, ()) | 13 => fun _ => () | 14 => fun _ => () | 15 => fun _ => () | 16 => fun _ => () | 17 => fun x => (x.f_Method, x.f_Kind, ()) | 18 => fun x => (x.f_s, ()) | 19 => fun x => (x.f_PkgPath, x.f_Mcount, x.f_Xcount, x.f_Moff, x.f_blank4, ()) | 20 => fun x => (x.f_Name, x.f_Mtyp, x.f_Ifn, x.f_Tfn, ()) | _ + 21 => fun _ => ()
def UnInn : (n : Nat) → (UnB n).den UnT → UnT n := fun n => match n with | 0 => fun (x : Int × Int × Bool × Int × Unit) => (T_runtime_boundsError.mk x.1 x.2.1 x.2.2.1 x.2.2.2.1 : T_runtime_boundsError) | 1 => fun (x : (List UInt8) × Int × Unit) => (T_runtime_errorAddressString.mk x.1 x.2.1 : T_runtime_errorAddressString) | 2 => fun _ => () | 3 => fun (x : Int × Int × Int × (List Int) × Unit) => (T_prog_Instr.mk x.1 x.2.1 x.2.2.1 x.2.2.2.1 : T_prog_Instr) | 4 => fun (x : Int × Int × (List Int) × (List T_rex_Node) × Unit) => (T_rex_Node.mk x.1 x.2.1 x.2.2.1 x.2.2.2.1 : T_rex_Node) | 5 => fun (x : Int × Int × (List Int) × (List T_millwrightref07_Node) × Unit) => (T_millwrightref07_Node.mk x.1 x.2.1 x.2.2.1 x.2.2.2.1 : T_millwrightref07_Node) | 6 => fun (x : Int × Int × Int × (List Int) × Unit) => (T_millwrightref08_Instr.mk x.1 x.2.1 x.2.2.1 x.2.2.2.1 : T_millwrightref08_Instr) | 7 => fun (x : Int × (List Int) × Unit) => (T_millwrightref07_sign.mk x.1 x.2.1 : T_millwrightref07_sign) | 8 => fun (x : (List T_prog_Instr) × Unit) => (T_prog_writer.mk x.1 : T_prog_writer) | 9 => fun (x : Int × (List Int) × Unit) => (T_pike_thread.mk x.1 x.2.1 : T_pike_thread) | 10 => fun _ => () | 11 => fun (x : (List T_millwrightref08_Instr) × (List UInt8) × (List Bool) × Unit) => (T_millwrightref09_search.mk x.1 x.2.1 x.2.2.1 : T_millwrightref09_search) | 12 => fun (x : (List UInt8) × Int × Int × Bool × Unit) => (T_rex_parser.mk x.1 x.2.1 x.2.2.1 x.2.2.2.1 : T_rex_parser) | 13 => fun _ => () | 14 => fun _ => () | 15 => fun _ => () | 16 => fun _ => () | 17 => fun (x : (List UInt8) × Int × Unit) => (T_reflectlite_ValueError.mk x.1 x.2.1 : T_reflectlite_ValueError) | 18 => fun (x : (List UInt8) × Unit) => (T_errors_errorString.mk x.1 : T_errors_errorString) | 19 => fun (x : Int × Int × Int × Int × Int × Unit) => (T_abi_UncommonType.mk x.1 x.2.1 x.2.2.1 x.2.2.2.1 x.2.2.2.2.1 : T_abi_UncommonType) | 20 => fun (x : Int × Int × Int × Int × Unit) => (T_abi_Method.mk x.1 x.2.1 x.2.2.1 x.2.2.2.1 : T_abi_Method) | _ + 21 => fun _ => ()
def UnW : Nat → Nat := fun n => match n with | 0 => 4 | 1 => 2 | 2 => 0 | 3 => 7 | 4 => 7 | 5 => 7 | 6 => 7 | 7 => 5 | 8 => 1 | 9 => 21 | 10 => 0 | 11 => 3 | 12 => 4 | 13 => 0 | 14 => 0 | 15 => 0 | 16 => 0 | 17 => 2 | 18 => 1 | 19 => 5 | 20 => 4 | _ + 21 => 0
def UnF : Nat → Bool := fun n => match n with | 0 => true | 1 => true | 2 => true | 3 => true | 4 => false | 5 => false | 6 => true | 7 => true | 8 => false | 9 => true | 10 => true | 11 => false | 12 => true | 13 => true | 14 => true | 15 => true | 16 => true | 17 => true | 18 => true | 19 => true | 20 => true | _ + 21 => true
theorem un_out_inn : ∀ n x, UnOut n (UnInn n x) = x := by
  intro n
  match n with
  | 0 => exact fun _ => rfl
  | 1 => exact fun _ => rfl
  | 2 => exact fun _ => rfl
  | 3 => exact fun _ => rfl
  | 4 => exact fun _ => rfl
  | 5 => exact fun _ => rfl
  | 6 => exact fun _ => rfl
  | 7 => exact fun _ => rfl
  | 8 => exact fun _ => rfl
  | 9 => exact fun _ => rfl
  | 10 => exact fun _ => rfl
  | 11 => exact fun _ => rfl
  | 12 => exact fun _ => rfl
  | 13 => exact fun _ => rfl
  | 14 => exact fun _ => rfl
  | 15 => exact fun _ => rfl
  | 16 => exact fun _ => rfl
  | 17 => exact fun _ => rfl
  | 18 => exact fun _ => rfl
  | 19 => exact fun _ => rfl
  | 20 => exact fun _ => rfl
  | _ + 21 => exact fun _ => rfl
theorem un_inn_out : ∀ n x, UnInn n (UnOut n x) = x := by
  intro n
  match n with
  | 0 => exact fun x => by cases x; rfl
  | 1 => exact fun x => by cases x; rfl
  | 2 => exact fun _ => rfl
  | 3 => exact fun x => by cases x; rfl
  | 4 => exact fun x => by cases x; rfl
  | 5 => exact fun x => by cases x; rfl
  | 6 => exact fun x => by cases x; rfl
  | 7 => exact fun x => by cases x; rfl
  | 8 => exact fun x => by cases x; rfl
  | 9 => exact fun x => by cases x; rfl
  | 10 => exact fun _ => rfl
  | 11 => exact fun x => by cases x; rfl
  | 12 => exact fun x => by cases x; rfl
  | 13 => exact fun _ => rfl
  | 14 => exact fun _ => rfl
  | 15 => exact fun _ => rfl
  | 16 => exact fun _ => rfl
  | 17 => exact fun x => by cases x; rfl
  | 18 => exact fun x => by cases x; rfl
  | 19 => exact fun x => by cases x; rfl
  | 20 => exact fun x => by cases x; rfl
  | _ + 21 => exact fun _ => rfl
theorem un_wd : ∀ n, (UnB n).width UnW = UnW n := by
  intro n
  match n with
  | 0 => rfl
  | 1 => rfl
  | 2 => rfl
  | 3 => rfl
  | 4 => rfl
  | 5 => rfl
  | 6 => rfl
  | 7 => rfl
  | 8 => rfl
  | 9 => rfl
  | 10 => rfl
  | 11 => rfl
  | 12 => rfl
  | 13 => rfl
  | 14 => rfl
  | 15 => rfl
  | 16 => rfl
  | 17 => rfl
  | 18 => rfl
  | 19 => rfl
  | 20 => rfl
  | _ + 21 => rfl
theorem un_fl : ∀ n, UnF n = true → (UnB n).flat UnF = true := by
  intro n
  match n with
  | 0 => exact fun h => by first | rfl | cases h
  | 1 => exact fun h => by first | rfl | cases h
  | 2 => exact fun h => by first | rfl | cases h
  | 3 => exact fun h => by first | rfl | cases h
  | 4 => exact fun h => by first | rfl | cases h
  | 5 => exact fun h => by first | rfl | cases h
  | 6 => exact fun h => by first | rfl | cases h
  | 7 => exact fun h => by first | rfl | cases h
  | 8 => exact fun h => by first | rfl | cases h
  | 9 => exact fun h => by first | rfl | cases h
  | 10 => exact fun h => by first | rfl | cases h
  | 11 => exact fun h => by first | rfl | cases h
  | 12 => exact fun h => by first | rfl | cases h
  | 13 => exact fun h => by first | rfl | cases h
  | 14 => exact fun h => by first | rfl | cases h
  | 15 => exact fun h => by first | rfl | cases h
  | 16 => exact fun h => by first | rfl | cases h
  | 17 => exact fun h => by first | rfl | cases h
  | 18 => exact fun h => by first | rfl | cases h
  | 19 => exact fun h => by first | rfl | cases h
  | 20 => exact fun h => by first | rfl | cases h
  | _ + 21 => exact fun _ => rfl
def Un : Univ where
  T := UnT
  body := UnB
  out := UnOut
  inn := UnInn
  out_inn := un_out_inn
  inn_out := un_inn_out
  wd := UnW
  wd_ok := un_wd
  fl := UnF
  fl_ok := un_fl
theorem mixed : Tryd.prog.follows .mixedOrders = true := by kernel_rfl
theorem az_26 : ∃ v cs, (Tryd.prog.info? 26).bind (·.zero) = some v ∧ v.cells.toList = cs ∧ ZU Un [.p (.arr 4 (.int .u64)) ((List.replicate 4 (0 : Int)) : List Int)] cs := ⟨(.agg #[.int .u64 0, .int .u64 0, .int .u64 0, .int .u64 0]), _, by kernel_rfl, rfl, (.data (rd_zeros _ _) .nil)⟩
theorem az_28 : ∃ v cs, (Tryd.prog.info? 28).bind (·.zero) = some v ∧ v.cells.toList = cs ∧ ZU Un [.p (.int .i64) (0 : Int), .p (.int .i64) (0 : Int), .p (.int .i64) (0 : Int), .p (.arr 4 (.int .u64)) ((List.replicate 4 (0 : Int)) : List Int)] cs := ⟨(.agg #[.int .i64 0, .int .i64 0, .int .i64 0, .int .u64 0, .int .u64 0, .int .u64 0, .int .u64 0]), _, by kernel_rfl, rfl, (.data (fun _ _ _ => .int _ _) (.data (fun _ _ _ => .int _ _) (.data (fun _ _ _ => .int _ _) (.data (rd_zeros _ _) .nil))))⟩
theorem az_32 : ∃ v cs, (Tryd.prog.info? 32).bind (·.zero) = some v ∧ v.cells.toList = cs ∧ ZU Un [.p (.int .i64) (0 : Int), .p (.int .i64) (0 : Int), .p (.arr 4 (.int .u64)) ((List.replicate 4 (0 : Int)) : List Int), .p (.list (.named 4)) ([] : List T_rex_Node)] cs := ⟨(.agg #[.int .i64 0, .int .i64 0, .int .u64 0, .int .u64 0, .int .u64 0, .int .u64 0, .slice none 0 0]), _, by kernel_rfl, rfl, (.data (fun _ _ _ => .int _ _) (.data (fun _ _ _ => .int _ _) (.data (rd_zeros _ _) (.data (fun _ _ _ => .lnil _) .nil))))⟩
theorem az_69 : ∃ v cs, (Tryd.prog.info? 69).bind (·.zero) = some v ∧ v.cells.toList = cs ∧ ZU Un [.p (.arr 20 (.int .i64)) ((List.replicate 20 (0 : Int)) : List Int)] cs := ⟨(.agg #[.int .i64 0, .int .i64 0, .int .i64 0, .int .i64 0, .int .i64 0, .int .i64 0, .int .i64 0, .int .i64 0, .int .i64 0, .int .i64 0, .int .i64 0, .int .i64 0, .int .i64 0, .int .i64 0, .int .i64 0, .int .i64 0, .int .i64 0, .int .i64 0, .int .i64 0, .int .i64 0]), _, by kernel_rfl, rfl, (.data (rd_zeros _ _) .nil)⟩
theorem az_102 : ∃ v cs, (Tryd.prog.info? 102).bind (·.zero) = some v ∧ v.cells.toList = cs ∧ ZU Un [.p (.int .i64) (0 : Int), .p (.int .i64) (0 : Int), .p (.int .i64) (0 : Int), .p (.arr 4 (.int .u64)) ((List.replicate 4 (0 : Int)) : List Int)] cs := ⟨(.agg #[.int .i64 0, .int .i64 0, .int .i64 0, .int .u64 0, .int .u64 0, .int .u64 0, .int .u64 0]), _, by kernel_rfl, rfl, (.data (fun _ _ _ => .int _ _) (.data (fun _ _ _ => .int _ _) (.data (fun _ _ _ => .int _ _) (.data (rd_zeros _ _) .nil))))⟩
theorem az_105 : ∃ v cs, (Tryd.prog.info? 105).bind (·.zero) = some v ∧ v.cells.toList = cs ∧ ZU Un [.lit (.slice none 0 0)] cs := ⟨(.agg #[.slice none 0 0]), _, by kernel_rfl, rfl, (.lit rfl .nil)⟩
theorem az_116 : ∃ v cs, (Tryd.prog.info? 116).bind (·.zero) = some v ∧ v.cells.toList = cs ∧ ZU Un [.p (.arr 20 (.int .i64)) ((List.replicate 20 (0 : Int)) : List Int)] cs := ⟨(.agg #[.int .i64 0, .int .i64 0, .int .i64 0, .int .i64 0, .int .i64 0, .int .i64 0, .int .i64 0, .int .i64 0, .int .i64 0, .int .i64 0, .int .i64 0, .int .i64 0, .int .i64 0, .int .i64 0, .int .i64 0, .int .i64 0, .int .i64 0, .int .i64 0, .int .i64 0, .int .i64 0]), _, by kernel_rfl, rfl, (.data (rd_zeros _ _) .nil)⟩
theorem az_151 : ∃ v cs, (Tryd.prog.info? 151).bind (·.zero) = some v ∧ v.cells.toList = cs ∧ ZU Un [.p (.int .i64) (0 : Int), .p (.arr 20 (.int .i64)) ((List.replicate 20 (0 : Int)) : List Int)] cs := ⟨(.agg #[.int .i64 0, .int .i64 0, .int .i64 0, .int .i64 0, .int .i64 0, .int .i64 0, .int .i64 0, .int .i64 0, .int .i64 0, .int .i64 0, .int .i64 0, .int .i64 0, .int .i64 0, .int .i64 0, .int .i64 0, .int .i64 0, .int .i64 0, .int .i64 0, .int .i64 0, .int .i64 0, .int .i64 0]), _, by kernel_rfl, rfl, (.data (fun _ _ _ => .int _ _) (.data (rd_zeros _ _) .nil))⟩
theorem ty_3 : TyOk Tryd.prog Un 3 (.int .i64) := tyOk_mk (c := 1) (by kernel_rfl) rfl Tryd.underlying3 rfl
theorem fd_28_0 : FdOk Tryd.prog Un 28 0 0 3 (.int .i64) := ⟨⟨_, _, Tryd.underlying28, rfl, rfl, rfl⟩, ty_3⟩
theorem fd_28_1 : FdOk Tryd.prog Un 28 1 1 3 (.int .i64) := ⟨⟨_, _, Tryd.underlying28, rfl, rfl, rfl⟩, ty_3⟩
theorem fd_28_2 : FdOk Tryd.prog Un 28 2 2 3 (.int .i64) := ⟨⟨_, _, Tryd.underlying28, rfl, rfl, rfl⟩, ty_3⟩
theorem ty_26 : TyOk Tryd.prog Un 26 (.arr 4 (.int .u64)) := tyOk_mk (c := 4) (by kernel_rfl) rfl Tryd.underlying26 rfl
theorem fd_28_3 : FdOk Tryd.prog Un 28 3 3 26 (.arr 4 (.int .u64)) := ⟨⟨_, _, Tryd.underlying28, rfl, rfl, rfl⟩, ty_26⟩
theorem fd_32_0 : FdOk Tryd.prog Un 32 0 0 3 (.int .i64) := ⟨⟨_, _, Tryd.underlying32, rfl, rfl, rfl⟩, ty_3⟩
theorem fd_32_1 : FdOk Tryd.prog Un 32 1 1 3 (.int .i64) := ⟨⟨_, _, Tryd.underlying32, rfl, rfl, rfl⟩, ty_3⟩
theorem fd_32_2 : FdOk Tryd.prog Un 32 2 2 26 (.arr 4 (.int .u64)) := ⟨⟨_, _, Tryd.underlying32, rfl, rfl, rfl⟩, ty_26⟩
theorem ty_30 : TyOk Tryd.prog Un 30 (.list (.named 4)) := tyOk_mk (c := 1) (by kernel_rfl) rfl Tryd.underlying30 rfl
theorem fd_32_3 : FdOk Tryd.prog Un 32 3 6 30 (.list (.named 4)) := ⟨⟨_, _, Tryd.underlying32, rfl, rfl, rfl⟩, ty_30⟩
theorem fd_102_0 : FdOk Tryd.prog Un 102 0 0 3 (.int .i64) := ⟨⟨_, _, Tryd.underlying102, rfl, rfl, rfl⟩, ty_3⟩
theorem fd_102_1 : FdOk Tryd.prog Un 102 1 1 3 (.int .i64) := ⟨⟨_, _, Tryd.underlying102, rfl, rfl, rfl⟩, ty_3⟩
theorem fd_102_2 : FdOk Tryd.prog Un 102 2 2 3 (.int .i64) := ⟨⟨_, _, Tryd.underlying102, rfl, rfl, rfl⟩, ty_3⟩
theorem ty_25 : TyOk Tryd.prog Un 25 (.arr 4 (.int .u64)) := tyOk_mk (c := 4) (by kernel_rfl) rfl Tryd.underlying25 rfl
theorem fd_102_3 : FdOk Tryd.prog Un 102 3 3 25 (.arr 4 (.int .u64)) := ⟨⟨_, _, Tryd.underlying102, rfl, rfl, rfl⟩, ty_25⟩
theorem ty_22 : TyOk Tryd.prog Un 22 (.list (.named 3)) := tyOk_mk (c := 1) (by kernel_rfl) rfl Tryd.underlying22 rfl
theorem fd_105_0 : FdOk Tryd.prog Un 105 0 0 22 (.list (.named 3)) := ⟨⟨_, _, Tryd.underlying105, rfl, rfl, rfl⟩, ty_22⟩
theorem fd_115_0 : FdOk Tryd.prog Un 115 0 0 22 (.list (.named 3)) := ⟨⟨_, _, Tryd.underlying115, rfl, rfl, rfl⟩, ty_22⟩
theorem ty_9 : TyOk Tryd.prog Un 9 .str := tyOk_mk (c := 1) (by kernel_rfl) rfl Tryd.underlying9 rfl
theorem fd_115_1 : FdOk Tryd.prog Un 115 1 1 9 .str := ⟨⟨_, _, Tryd.underlying115, rfl, rfl, rfl⟩, ty_9⟩
theorem fd_115_2 : FdOk Tryd.prog Un 115 2 2 3 (.int .i64) := ⟨⟨_, _, Tryd.underlying115, rfl, rfl, rfl⟩, ty_3⟩
theorem ty_35 : TyOk Tryd.prog Un 35 (.list (.int .i64)) := tyOk_mk (c := 1) (by kernel_rfl) rfl Tryd.underlying35 rfl
theorem fd_115_3 : FdOk Tryd.prog Un 115 3 3 35 (.list (.int .i64)) := ⟨⟨_, _, Tryd.underlying115, rfl, rfl, rfl⟩, ty_35⟩
theorem ty_112 : TyOk Tryd.prog Un 112 (.list (.named 9)) := tyOk_mk (c := 1) (by kernel_rfl) rfl Tryd.underlying112 rfl
theorem fd_115_4 : FdOk Tryd.prog Un 115 4 4 112 (.list (.named 9)) := ⟨⟨_, _, Tryd.underlying115, rfl, rfl, rfl⟩, ty_112⟩
theorem ty_113 : TyOk Tryd.prog Un 113 (.ptr (.arr 20 (.int .i64))) := tyOk_mk (c := 1) (by kernel_rfl) rfl Tryd.underlying113 rfl
theorem fd_115_5 : FdOk Tryd.prog Un 115 5 5 113 (.ptr (.arr 20 (.int .i64))) := ⟨⟨_, _, Tryd.underlying115, rfl, rfl, rfl⟩, ty_113⟩
theorem ty_60 : TyOk Tryd.prog Un 60 (.list (.named 6)) := tyOk_mk (c := 1) (by kernel_rfl) rfl Tryd.underlying60 rfl
theorem fd_121_0 : FdOk Tryd.prog Un 121 0 0 60 (.list (.named 6)) := ⟨⟨_, _, Tryd.underlying121, rfl, rfl, rfl⟩, ty_60⟩
theorem fd_121_1 : FdOk Tryd.prog Un 121 1 1 9 .str := ⟨⟨_, _, Tryd.underlying121, rfl, rfl, rfl⟩, ty_9⟩
theorem ty_85 : TyOk Tryd.prog Un 85 (.list .bool) := tyOk_mk (c := 1) (by kernel_rfl) rfl Tryd.underlying85 rfl
theorem fd_121_2 : FdOk Tryd.prog Un 121 2 2 85 (.list .bool) := ⟨⟨_, _, Tryd.underlying121, rfl, rfl, rfl⟩, ty_85⟩
theorem fd_125_0 : FdOk Tryd.prog Un 125 0 0 9 .str := ⟨⟨_, _, Tryd.underlying125, rfl, rfl, rfl⟩, ty_9⟩
theorem fd_125_1 : FdOk Tryd.prog Un 125 1 1 3 (.int .i64) := ⟨⟨_, _, Tryd.underlying125, rfl, rfl, rfl⟩, ty_3⟩
theorem fd_125_2 : FdOk Tryd.prog Un 125 2 2 3 (.int .i64) := ⟨⟨_, _, Tryd.underlying125, rfl, rfl, rfl⟩, ty_3⟩
theorem ty_4 : TyOk Tryd.prog Un 4 .bool := tyOk_mk (c := 1) (by kernel_rfl) rfl Tryd.underlying4 rfl
theorem fd_125_3 : FdOk Tryd.prog Un 125 3 3 4 .bool := ⟨⟨_, _, Tryd.underlying125, rfl, rfl, rfl⟩, ty_4⟩
theorem fd_151_0 : FdOk Tryd.prog Un 151 0 0 3 (.int .i64) := ⟨⟨_, _, Tryd.underlying151, rfl, rfl, rfl⟩, ty_3⟩
theorem ty_116 : TyOk Tryd.prog Un 116 (.arr 20 (.int .i64)) := tyOk_mk (c := 20) (by kernel_rfl) rfl Tryd.underlying116 rfl
theorem fd_151_1 : FdOk Tryd.prog Un 151 1 1 116 (.arr 20 (.int .i64)) := ⟨⟨_, _, Tryd.underlying151, rfl, rfl, rfl⟩, ty_116⟩
theorem hb_16 : HasBody Tryd.prog 16 := ⟨⟨_, Tryd.func16, by kernel_rfl, rfl⟩⟩
theorem hb_25 : HasBody Tryd.prog 25 := ⟨⟨_, Tryd.func25, by kernel_rfl, rfl⟩⟩
theorem hb_29 : HasBody Tryd.prog 29 := ⟨⟨_, Tryd.func29, by kernel_rfl, rfl⟩⟩
theorem hb_31 : HasBody Tryd.prog 31 := ⟨⟨_, Tryd.func31, by kernel_rfl, rfl⟩⟩
theorem hb_32 : HasBody Tryd.prog 32 := ⟨⟨_, Tryd.func32, by kernel_rfl, rfl⟩⟩
theorem hb_37 : HasBody Tryd.prog 37 := ⟨⟨_, Tryd.func37, by kernel_rfl, rfl⟩⟩
theorem hb_38 : HasBody Tryd.prog 38 := ⟨⟨_, Tryd.func38, by kernel_rfl, rfl⟩⟩
theorem hb_40 : HasBody Tryd.prog 40 := ⟨⟨_, Tryd.func40, by kernel_rfl, rfl⟩⟩
theorem hb_41 : HasBody Tryd.prog 41 := ⟨⟨_, Tryd.func41, by kernel_rfl, rfl⟩⟩
theorem hb_42 : HasBody Tryd.prog 42 := ⟨⟨_, Tryd.func42, by kernel_rfl, rfl⟩⟩
theorem hb_43 : HasBody Tryd.prog 43 := ⟨⟨_, Tryd.func43, by kernel_rfl, rfl⟩⟩
theorem hb_44 : HasBody Tryd.prog 44 := ⟨⟨_, Tryd.func44, by kernel_rfl, rfl⟩⟩
theorem hb_45 : HasBody Tryd.prog 45 := ⟨⟨_, Tryd.func45, by kernel_rfl, rfl⟩⟩
theorem hb_49 : HasBody Tryd.prog 49 := ⟨⟨_, Tryd.func49, by kernel_rfl, rfl⟩⟩
theorem hb_50 : HasBody Tryd.prog 50 := ⟨⟨_, Tryd.func50, by kernel_rfl, rfl⟩⟩
theorem hb_51 : HasBody Tryd.prog 51 := ⟨⟨_, Tryd.func51, by kernel_rfl, rfl⟩⟩
theorem hb_52 : HasBody Tryd.prog 52 := ⟨⟨_, Tryd.func52, by kernel_rfl, rfl⟩⟩
theorem hb_55 : HasBody Tryd.prog 55 := ⟨⟨_, Tryd.func55, by kernel_rfl, rfl⟩⟩
theorem hb_67 : HasBody Tryd.prog 67 := ⟨⟨_, Tryd.func67, by kernel_rfl, rfl⟩⟩
theorem hb_68 : HasBody Tryd.prog 68 := ⟨⟨_, Tryd.func68, by kernel_rfl, rfl⟩⟩
theorem hb_69 : HasBody Tryd.prog 69 := ⟨⟨_, Tryd.func69, by kernel_rfl, rfl⟩⟩
theorem hb_70 : HasBody Tryd.prog 70 := ⟨⟨_, Tryd.func70, by kernel_rfl, rfl⟩⟩
theorem hb_71 : HasBody Tryd.prog 71 := ⟨⟨_, Tryd.func71, by kernel_rfl, rfl⟩⟩
theorem hb_72 : HasBody Tryd.prog 72 := ⟨⟨_, Tryd.func72, by kernel_rfl, rfl⟩⟩
theorem hb_73 : HasBody Tryd.prog 73 := ⟨⟨_, Tryd.func73, by kernel_rfl, rfl⟩⟩
theorem hb_74 : HasBody Tryd.prog 74 := ⟨⟨_, Tryd.func74, by kernel_rfl, rfl⟩⟩
theorem hb_81 : HasBody Tryd.prog 81 := ⟨⟨_, Tryd.func81, by kernel_rfl, rfl⟩⟩
theorem hb_90 : HasBody Tryd.prog 90 := ⟨⟨_, Tryd.func90, by kernel_rfl, rfl⟩⟩
theorem hb_91 : HasBody Tryd.prog 91 := ⟨⟨_, Tryd.func91, by kernel_rfl, rfl⟩⟩
theorem hb_92 : HasBody Tryd.prog 92 := ⟨⟨_, Tryd.func92, by kernel_rfl, rfl⟩⟩
theorem hb_93 : HasBody Tryd.prog 93 := ⟨⟨_, Tryd.func93, by kernel_rfl, rfl⟩⟩
theorem hb_94 : HasBody Tryd.prog 94 := ⟨⟨_, Tryd.func94, by kernel_rfl, rfl⟩⟩
theorem hb_95 : HasBody Tryd.prog 95 := ⟨⟨_, Tryd.func95, by kernel_rfl, rfl⟩⟩
theorem hb_96 : HasBody Tryd.prog 96 := ⟨⟨_, Tryd.func96, by kernel_rfl, rfl⟩⟩
theorem hb_99 : HasBody Tryd.prog 99 := ⟨⟨_, Tryd.func99, by kernel_rfl, rfl⟩⟩
theorem hb_100 : HasBody Tryd.prog 100 := ⟨⟨_, Tryd.func100, by kernel_rfl, rfl⟩⟩
theorem hb_101 : HasBody Tryd.prog 101 := ⟨⟨_, Tryd.func101, by kernel_rfl, rfl⟩⟩
theorem hb_102 : HasBody Tryd.prog 102 := ⟨⟨_, Tryd.func102, by kernel_rfl, rfl⟩⟩
theorem hb_103 : HasBody Tryd.prog 103 := ⟨⟨_, Tryd.func103, by kernel_rfl, rfl⟩⟩
theorem hb_105 : HasBody Tryd.prog 105 := ⟨⟨_, Tryd.func105, by kernel_rfl, rfl⟩⟩
theorem hb_106 : HasBody Tryd.prog 106 := ⟨⟨_, Tryd.func106, by kernel_rfl, rfl⟩⟩
theorem hb_107 : HasBody Tryd.prog 107 := ⟨⟨_, Tryd.func107, by kernel_rfl, rfl⟩⟩
theorem hb_108 : HasBody Tryd.prog 108 := ⟨⟨_, Tryd.func108, by kernel_rfl, rfl⟩⟩
theorem hb_109 : HasBody Tryd.prog 109 := ⟨⟨_, Tryd.func109, by kernel_rfl, rfl⟩⟩
theorem hb_110 : HasBody Tryd.prog 110 := ⟨⟨_, Tryd.func110, by kernel_rfl, rfl⟩⟩
theorem hb_112 : HasBody Tryd.prog 112 := ⟨⟨_, Tryd.func112, by kernel_rfl, rfl⟩⟩
theorem hb_113 : HasBody Tryd.prog 113 := ⟨⟨_, Tryd.func113, by kernel_rfl, rfl⟩⟩
theorem hb_114 : HasBody Tryd.prog 114 := ⟨⟨_, Tryd.func114, by kernel_rfl, rfl⟩⟩
theorem hb_115 : HasBody Tryd.prog 115 := ⟨⟨_, Tryd.func115, by kernel_rfl, rfl⟩⟩
theorem lays_26 : lays Tryd.prog 26 = some ([.int .u64 0, .int .u64 0, .int .u64 0, .int .u64 0], (fun i => some (i * 1, 1))) := by kernel_rfl
theorem lays_28 : lays Tryd.prog 28 = some ([.int .i64 0, .int .i64 0, .int .i64 0, .int .u64 0, .int .u64 0, .int .u64 0, .int .u64 0], (fun i => ([(0, 1), (1, 1), (2, 1), (3, 4)] : List (Nat × Nat)).toArray[i]?)) := by kernel_rfl
theorem lays_32 : lays Tryd.prog 32 = some ([.int .i64 0, .int .i64 0, .int .u64 0, .int .u64 0, .int .u64 0, .int .u64 0, .slice none 0 0], (fun i => ([(0, 1), (1, 1), (2, 4), (6, 1)] : List (Nat × Nat)).toArray[i]?)) := by kernel_rfl
theorem lays_69 : lays Tryd.prog 69 = some ([.int .i64 0, .int .i64 0, .int .i64 0, .int .i64 0, .int .i64 0, .int .i64 0, .int .i64 0, .int .i64 0, .int .i64 0, .int .i64 0, .int .i64 0, .int .i64 0, .int .i64 0, .int .i64 0, .int .i64 0, .int .i64 0, .int .i64 0, .int .i64 0, .int .i64 0, .int .i64 0], (fun i => some (i * 1, 1))) := by kernel_rfl
theorem lays_102 : lays Tryd.prog 102 = some ([.int .i64 0, .int .i64 0, .int .i64 0, .int .u64 0, .int .u64 0, .int .u64 0, .int .u64 0], (fun i => ([(0, 1), (1, 1), (2, 1), (3, 4)] : List (Nat × Nat)).toArray[i]?)) := by kernel_rfl
theorem lays_115 : lays Tryd.prog 115 = some ([.slice none 0 0, .string ByteArray.empty, .int .i64 0, .slice none 0 0, .slice none 0 0, .pointer none], (fun i => ([(0, 1), (1, 1), (2, 1), (3, 1), (4, 1), (5, 1)] : List (Nat × Nat)).toArray[i]?)) := by kernel_rfl
theorem lays_121 : lays Tryd.prog 121 = some ([.slice none 0 0, .string ByteArray.empty, .slice none 0 0], (fun i => ([(0, 1), (1, 1), (2, 1)] : List (Nat × Nat)).toArray[i]?)) := by kernel_rfl
theorem lays_125 : lays Tryd.prog 125 = some ([.string ByteArray.empty, .int .i64 0, .int .i64 0, .bool false], (fun i => ([(0, 1), (1, 1), (2, 1), (3, 1)] : List (Nat × Nat)).toArray[i]?)) := by kernel_rfl
theorem lays_151 : lays Tryd.prog 151 = some ([.int .i64 0, .int .i64 0, .int .i64 0, .int .i64 0, .int .i64 0, .int .i64 0, .int .i64 0, .int .i64 0, .int .i64 0, .int .i64 0, .int .i64 0, .int .i64 0, .int .i64 0, .int .i64 0, .int .i64 0, .int .i64 0, .int .i64 0, .int .i64 0, .int .i64 0, .int .i64 0, .int .i64 0], (fun i => ([(0, 1), (1, 20)] : List (Nat × Nat)).toArray[i]?)) := by kernel_rfl
theorem ty_28 : TyOk Tryd.prog Un 28 (.named 3) := tyOk_mk (c := 7) (by kernel_rfl) rfl Tryd.underlying28 rfl
theorem sl_22 : SlOk Tryd.prog Un 22 28 (.named 3) := ⟨Tryd.underlying22, ty_28⟩
theorem row_22 : RowOk Tryd.prog Un 22 28 (.named 3) 56 := rowOk_mk (c := 7) sl_22 (by kernel_rfl) rfl (by decide)
theorem ty_32 : TyOk Tryd.prog Un 32 (.named 4) := tyOk_mk (c := 7) (by kernel_rfl) rfl Tryd.underlying32 rfl
theorem sl_30 : SlOk Tryd.prog Un 30 32 (.named 4) := ⟨Tryd.underlying30, ty_32⟩
theorem row_30 : RowOk Tryd.prog Un 30 32 (.named 4) 72 := rowOk_mk (c := 7) sl_30 (by kernel_rfl) rfl (by decide)
theorem sl_35 : SlOk Tryd.prog Un 35 3 (.int .i64) := ⟨Tryd.underlying35, ty_3⟩
theorem row_35 : RowOk Tryd.prog Un 35 3 (.int .i64) 8 := rowOk_mk (c := 1) sl_35 (by kernel_rfl) rfl (by decide)
theorem ty_102 : TyOk Tryd.prog Un 102 (.named 6) := tyOk_mk (c := 7) (by kernel_rfl) rfl Tryd.underlying102 rfl
theorem sl_60 : SlOk Tryd.prog Un 60 102 (.named 6) := ⟨Tryd.underlying60, ty_102⟩
theorem row_60 : RowOk Tryd.prog Un 60 102 (.named 6) 56 := rowOk_mk (c := 7) sl_60 (by kernel_rfl) rfl (by decide)
theorem sl_85 : SlOk Tryd.prog Un 85 4 .bool := ⟨Tryd.underlying85, ty_4⟩
theorem row_85 : RowOk Tryd.prog Un 85 4 .bool 1 := rowOk_mk (c := 1) sl_85 (by kernel_rfl) rfl (by decide)
theorem sl_108 : SlOk Tryd.prog Un 108 9 .str := ⟨Tryd.underlying108, ty_9⟩
theorem row_108 : RowOk Tryd.prog Un 108 9 .str 16 := rowOk_mk (c := 1) sl_108 (by kernel_rfl) rfl (by decide)
theorem ty_151 : TyOk Tryd.prog Un 151 (.named 9) := tyOk_mk (c := 21) (by kernel_rfl) rfl Tryd.underlying151 rfl
theorem sl_112 : SlOk Tryd.prog Un 112 151 (.named 9) := ⟨Tryd.underlying112, ty_151⟩
theorem row_112 : RowOk Tryd.prog Un 112 151 (.named 9) 168 := rowOk_mk (c := 21) sl_112 (by kernel_rfl) rfl (by decide)
theorem ty_5 : TyOk Tryd.prog Un 5 (.int .u8) := tyOk_mk (c := 1) (by kernel_rfl) rfl Tryd.underlying5 rfl
theorem sl_155 : SlOk Tryd.prog Un 155 5 (.int .u8) := ⟨Tryd.underlying155, ty_5⟩
theorem row_155 : RowOk Tryd.prog Un 155 5 (.int .u8) 1 := rowOk_mk (c := 1) sl_155 (by kernel_rfl) rfl (by decide)
theorem ty_24 : TyOk Tryd.prog Un 24 (.int .u64) := tyOk_mk (c := 1) (by kernel_rfl) rfl Tryd.underlying24 rfl
theorem ty_54 : TyOk Tryd.prog Un 54 .err := tyOk_mk (c := 1) (by kernel_rfl) rfl Tryd.underlying54 rfl
theorem ty_69 : TyOk Tryd.prog Un 69 (.arr 20 (.int .i64)) := tyOk_mk (c := 20) (by kernel_rfl) rfl Tryd.underlying69 rfl
theorem ty_121 : TyOk Tryd.prog Un 121 (.named 11) := tyOk_mk (c := 3) (by kernel_rfl) rfl Tryd.underlying121 rfl
theorem ty_125 : TyOk Tryd.prog Un 125 (.named 12) := tyOk_mk (c := 4) (by kernel_rfl) rfl Tryd.underlying125 rfl
theorem ty2_115 : TyOk Tryd.prog Un 115 (.arr 6 .bool) := tyOk_mk (c := 6) (by kernel_rfl) rfl Tryd.underlying115 rfl
theorem z0_3 : ZeroOk Tryd.prog Un 3 (.int .i64) (0 : Int) := zeroOk_int (by kernel_rfl)
theorem z0_4 : ZeroOk Tryd.prog Un 4 .bool false := zeroOk_bool (by kernel_rfl)
noncomputable def TB : Tab Un where
  un := Tryd.prog.underlying
  ty := [(3, .int .i64), (4, .bool), (5, .int .u8), (9, .str), (22, .list (.named 3)), (24, .int .u64), (25, .arr 4 (.int .u64)), (26, .arr 4 (.int .u64)), (28, .named 3), (30, .list (.named 4)), (32, .named 4), (35, .list (.int .i64)), (54, .err), (60, .list (.named 6)), (69, .arr 20 (.int .i64)), (85, .list .bool), (102, .named 6), (112, .list (.named 9)), (113, .ptr (.arr 20 (.int .i64))), (116, .arr 20 (.int .i64)), (121, .named 11), (125, .named 12), (151, .named 9), (115, .arr 6 .bool)]
  sl := [(22, 28, .named 3), (30, 32, .named 4), (35, 3, .int .i64), (60, 102, .named 6), (85, 4, .bool), (108, 9, .str), (112, 151, .named 9), (155, 5, .int .u8)]
  fd := [(28, 0, 0, .int .i64), (28, 1, 1, .int .i64), (28, 2, 2, .int .i64), (28, 3, 3, .arr 4 (.int .u64)), (32, 0, 0, .int .i64), (32, 1, 1, .int .i64), (32, 2, 2, .arr 4 (.int .u64)), (32, 3, 6, .list (.named 4)), (102, 0, 0, .int .i64), (102, 1, 1, .int .i64), (102, 2, 2, .int .i64), (102, 3, 3, .arr 4 (.int .u64)), (105, 0, 0, .list (.named 3)), (115, 0, 0, .list (.named 3)), (115, 1, 1, .str), (115, 2, 2, .int .i64), (115, 3, 3, .list (.int .i64)), (115, 4, 4, .list (.named 9)), (115, 5, 5, .ptr (.arr 20 (.int .i64))), (121, 0, 0, .list (.named 6)), (121, 1, 1, .str), (121, 2, 2, .list .bool), (125, 0, 0, .str), (125, 1, 1, .int .i64), (125, 2, 2, .int .i64), (125, 3, 3, .bool), (151, 0, 0, .int .i64), (151, 1, 1, .arr 20 (.int .i64))]
  ro := [(22, 28, .named 3, 56), (30, 32, .named 4, 72), (35, 3, .int .i64, 8), (60, 102, .named 6, 56), (85, 4, .bool, 1), (108, 9, .str, 16), (112, 151, .named 9, 168), (155, 5, .int .u8, 1)]
  zd := [(3, .p (.int .i64) (0 : Int)), (4, .p .bool false)]
  az := [(26, [.p (.arr 4 (.int .u64)) ((List.replicate 4 (0 : Int)) : List Int)]), (28, [.p (.int .i64) (0 : Int), .p (.int .i64) (0 : Int), .p (.int .i64) (0 : Int), .p (.arr 4 (.int .u64)) ((List.replicate 4 (0 : Int)) : List Int)]), (32, [.p (.int .i64) (0 : Int), .p (.int .i64) (0 : Int), .p (.arr 4 (.int .u64)) ((List.replicate 4 (0 : Int)) : List Int), .p (.list (.named 4)) ([] : List T_rex_Node)]), (69, [.p (.arr 20 (.int .i64)) ((List.replicate 20 (0 : Int)) : List Int)]), (102, [.p (.int .i64) (0 : Int), .p (.int .i64) (0 : Int), .p (.int .i64) (0 : Int), .p (.arr 4 (.int .u64)) ((List.replicate 4 (0 : Int)) : List Int)]), (105, [.lit (.slice none 0 0)]), (116, [.p (.arr 20 (.int .i64)) ((List.replicate 20 (0 : Int)) : List Int)]), (151, [.p (.int .i64) (0 : Int), .p (.arr 20 (.int .i64)) ((List.replicate 20 (0 : Int)) : List Int)])]
  bz := [(26, [.p (.arr 4 (.int .u64)) ((List.replicate 4 (0 : Int)) : List Int)], [(0, 1, .int .u64), (1, 1, .int .u64), (2, 1, .int .u64), (3, 1, .int .u64)]), (28, [.p (.int .i64) (0 : Int), .p (.int .i64) (0 : Int), .p (.int .i64) (0 : Int), .p (.arr 4 (.int .u64)) ((List.replicate 4 (0 : Int)) : List Int)], [(0, 1, .int .i64), (1, 1, .int .i64), (2, 1, .int .i64), (3, 4, .arr 4 (.int .u64))]), (32, [.p (.int .i64) (0 : Int), .p (.int .i64) (0 : Int), .p (.arr 4 (.int .u64)) ((List.replicate 4 (0 : Int)) : List Int), .p (.list (.named 4)) ([] : List T_rex_Node)], [(0, 1, .int .i64), (1, 1, .int .i64), (2, 4, .arr 4 (.int .u64)), (6, 1, .list (.named 4))]), (69, [.p (.arr 20 (.int .i64)) ((List.replicate 20 (0 : Int)) : List Int)], [(0, 1, .int .i64), (1, 1, .int .i64), (2, 1, .int .i64), (3, 1, .int .i64), (4, 1, .int .i64), (5, 1, .int .i64), (6, 1, .int .i64), (7, 1, .int .i64), (8, 1, .int .i64), (9, 1, .int .i64), (10, 1, .int .i64), (11, 1, .int .i64), (12, 1, .int .i64), (13, 1, .int .i64), (14, 1, .int .i64), (15, 1, .int .i64), (16, 1, .int .i64), (17, 1, .int .i64), (18, 1, .int .i64), (19, 1, .int .i64)]), (102, [.p (.int .i64) (0 : Int), .p (.int .i64) (0 : Int), .p (.int .i64) (0 : Int), .p (.arr 4 (.int .u64)) ((List.replicate 4 (0 : Int)) : List Int)], [(0, 1, .int .i64), (1, 1, .int .i64), (2, 1, .int .i64), (3, 4, .arr 4 (.int .u64))]), (115, [.p (.list (.named 3)) ([] : List T_prog_Instr), .p .str ([] : List UInt8), .p (.int .i64) (0 : Int), .lit (.slice none 0 0), .lit (.slice none 0 0), .p (.ptr (.arr 20 (.int .i64))) none], [(0, 1, .list (.named 3)), (1, 1, .str), (2, 1, .int .i64), (3, 1, .list (.int .i64)), (4, 1, .list (.named 9)), (5, 1, .ptr (.arr 20 (.int .i64)))]), (121, [.p (.list (.named 6)) ([] : List T_millwrightref08_Instr), .p .str ([] : List UInt8), .lit (.slice none 0 0)], [(0, 1, .list (.named 6)), (1, 1, .str), (2, 1, .list .bool)]), (125, [.p .str ([] : List UInt8), .p (.int .i64) (0 : Int), .p (.int .i64) (0 : Int), .p .bool false], [(0, 1, .str), (1, 1, .int .i64), (2, 1, .int .i64), (3, 1, .bool)]), (151, [.p (.int .i64) (0 : Int), .p (.arr 20 (.int .i64)) ((List.replicate 20 (0 : Int)) : List Int)], [(0, 1, .int .i64), (1, 20, .arr 20 (.int .i64))])]
  hb := [16, 25, 29, 31, 32, 37, 38, 40, 41, 42, 43, 44, 45, 49, 50, 51, 52, 55, 67, 68, 69, 70, 71, 72, 73, 74, 81, 90, 91, 92, 93, 94, 95, 96, 99, 100, 101, 102, 103, 105, 106, 107, 108, 109, 110, 112, 113, 114, 115]
theorem TBok : TbOk Tryd.prog Un TB where
  un := fun _ _ h => h
  ty := (.c ty_3 (.c ty_4 (.c ty_5 (.c ty_9 (.c ty_22 (.c ty_24 (.c ty_25 (.c ty_26 (.c ty_28 (.c ty_30 (.c ty_32 (.c ty_35 (.c ty_54 (.c ty_60 (.c ty_69 (.c ty_85 (.c ty_102 (.c ty_112 (.c ty_113 (.c ty_116 (.c ty_121 (.c ty_125 (.c ty_151 (.c ty2_115 AllP.z))))))))))))))))))))))))
  sl := (.c sl_22 (.c sl_30 (.c sl_35 (.c sl_60 (.c sl_85 (.c sl_108 (.c sl_112 (.c sl_155 AllP.z))))))))
  fd := (.c ⟨_, fd_28_0⟩ (.c ⟨_, fd_28_1⟩ (.c ⟨_, fd_28_2⟩ (.c ⟨_, fd_28_3⟩ (.c ⟨_, fd_32_0⟩ (.c ⟨_, fd_32_1⟩ (.c ⟨_, fd_32_2⟩ (.c ⟨_, fd_32_3⟩ (.c ⟨_, fd_102_0⟩ (.c ⟨_, fd_102_1⟩ (.c ⟨_, fd_102_2⟩ (.c ⟨_, fd_102_3⟩ (.c ⟨_, fd_105_0⟩ (.c ⟨_, fd_115_0⟩ (.c ⟨_, fd_115_1⟩ (.c ⟨_, fd_115_2⟩ (.c ⟨_, fd_115_3⟩ (.c ⟨_, fd_115_4⟩ (.c ⟨_, fd_115_5⟩ (.c ⟨_, fd_121_0⟩ (.c ⟨_, fd_121_1⟩ (.c ⟨_, fd_121_2⟩ (.c ⟨_, fd_125_0⟩ (.c ⟨_, fd_125_1⟩ (.c ⟨_, fd_125_2⟩ (.c ⟨_, fd_125_3⟩ (.c ⟨_, fd_151_0⟩ (.c ⟨_, fd_151_1⟩ AllP.z))))))))))))))))))))))))))))
  ro := (.c row_22 (.c row_30 (.c row_35 (.c row_60 (.c row_85 (.c row_108 (.c row_112 (.c row_155 AllP.z))))))))
  mp := AllP.z
  zd := (.c z0_3 (.c z0_4 AllP.z))
  az := (.c az_26 (.c az_28 (.c az_32 (.c az_69 (.c az_102 (.c az_105 (.c az_116 (.c az_151 AllP.z))))))))
  bz := (.c ⟨_, _, lays_26, (.data (rd_zeros _ _) .nil), by kernel_rfl⟩ (.c ⟨_, _, lays_28, (.data (fun _ _ _ => .int _ _) (.data (fun _ _ _ => .int _ _) (.data (fun _ _ _ => .int _ _) (.data (rd_zeros _ _) .nil)))), by kernel_rfl⟩ (.c ⟨_, _, lays_32, (.data (fun _ _ _ => .int _ _) (.data (fun _ _ _ => .int _ _) (.data (rd_zeros _ _) (.data (fun _ _ _ => .lnil _) .nil)))), by kernel_rfl⟩ (.c ⟨_, _, lays_69, (.data (rd_zeros _ _) .nil), by kernel_rfl⟩ (.c ⟨_, _, lays_102, (.data (fun _ _ _ => .int _ _) (.data (fun _ _ _ => .int _ _) (.data (fun _ _ _ => .int _ _) (.data (rd_zeros _ _) .nil)))), by kernel_rfl⟩ (.c ⟨_, _, lays_115, (.data (fun _ _ _ => .lnil _) (.data (fun _ _ _ => rd_str0) (.data (fun _ _ _ => .int _ _) (.lit rfl (.lit rfl (.data (fun _ _ _ => .pnil _) .nil)))))), by kernel_rfl⟩ (.c ⟨_, _, lays_121, (.data (fun _ _ _ => .lnil _) (.data (fun _ _ _ => rd_str0) (.lit rfl .nil))), by kernel_rfl⟩ (.c ⟨_, _, lays_125, (.data (fun _ _ _ => rd_str0) (.data (fun _ _ _ => .int _ _) (.data (fun _ _ _ => .int _ _) (.data (fun _ _ _ => .bool _) .nil)))), by kernel_rfl⟩ (.c ⟨_, _, lays_151, (.data (fun _ _ _ => .int _ _) (.data (rd_zeros _ _) .nil)), by kernel_rfl⟩ AllP.z)))))))))
  hb := (.c hb_16 (.c hb_25 (.c hb_29 (.c hb_31 (.c hb_32 (.c hb_37 (.c hb_38 (.c hb_40 (.c hb_41 (.c hb_42 (.c hb_43 (.c hb_44 (.c hb_45 (.c hb_49 (.c hb_50 (.c hb_51 (.c hb_52 (.c hb_55 (.c hb_67 (.c hb_68 (.c hb_69 (.c hb_70 (.c hb_71 (.c hb_72 (.c hb_73 (.c hb_74 (.c hb_81 (.c hb_90 (.c hb_91 (.c hb_92 (.c hb_93 (.c hb_94 (.c hb_95 (.c hb_96 (.c hb_99 (.c hb_100 (.c hb_101 (.c hb_102 (.c hb_103 (.c hb_105 (.c hb_106 (.c hb_107 (.c hb_108 (.c hb_109 (.c hb_110 (.c hb_112 (.c hb_113 (.c hb_114 (.c hb_115 AllP.z)))))))))))))))))))))))))))))))))))))))))))))))))
theorem rSC {O : Out} {B : Base} {id N : Nat} {ops : Array Oper} {st : St Un} {Q : PostQ Un} (x : RX Un O Tryd.prog ops) (ts ns : List Nat) (hN : B.n = N) (h1 : okS TB x st N = true) (h2 : obL TB x st = obR TB x st)  {st2 : St Un} (hcv : Conv Un O (nxS TB x st ts ns) st2) (hQ : Q .normal st2) : WpC Un O Tryd.prog B (.region id ops false) st Q := WpC.rS TBok x ts ns hN h1 h2 rfl hcv hQ
theorem rS {O : Out} {B : Base} {id N : Nat} {ops : Array Oper} {st : St Un} {Q : PostQ Un} (x : RX Un O Tryd.prog ops) (ts ns : List Nat) (hN : B.n = N) (h1 : okS TB x st N = true) (h2 : obL TB x st = obR TB x st)  (hQ : Q .normal (nxS TB x st ts ns)) : WpC Un O Tryd.prog B (.region id ops false) st Q := WpC.rS TBok x ts ns hN h1 h2 rfl (Conv.refl _) hQ
theorem rAC {O : Out} {B : Base} {id N : Nat} {ops : Array Oper} {st : St Un} {Q : PostQ Un} (x : RX Un O Tryd.prog ops) (ts ns : List Nat) (hN : B.n = N) (h1 : okS TB x st N = true) (h2 : obL TB x st = obR TB x st) (h4 : raS TB x st = true)  {st2 : St Un} (hcv : Conv Un O (nxS TB x st ts ns) st2) (hQ : Q .normal st2) : WpC Un O Tryd.prog B (.region id ops true) st Q := WpC.rA TBok mixed x ts ns hN h1 h2 h4 rfl hcv hQ
theorem rA {O : Out} {B : Base} {id N : Nat} {ops : Array Oper} {st : St Un} {Q : PostQ Un} (x : RX Un O Tryd.prog ops) (ts ns : List Nat) (hN : B.n = N) (h1 : okS TB x st N = true) (h2 : obL TB x st = obR TB x st) (h4 : raS TB x st = true)  (hQ : Q .normal (nxS TB x st ts ns)) : WpC Un O Tryd.prog B (.region id ops true) st Q := WpC.rA TBok mixed x ts ns hN h1 h2 h4 rfl (Conv.refl _) hQ
theorem cS {O : Out} {st : St Un} (l : List (CV Un O)) (h1 : cvOk l st = true) (h2 : cvL l st = cvR l st) : Conv Un O st (cvN l st) := Conv.S h1 h2
theorem tS : type_of% (@WpC.tS Un) := @WpC.tS Un
theorem sT : type_of% (@WpC.st Un) := @WpC.st Un
theorem eR {O : Out} {fn : Func} {c : CSpec Un} {st : St Un} (h1 : (resD TB st fn.results.toList).map resOf = some c.r) (h2 : (c.bs'.map fun x => lookA st.hp x.1) = c.bs'.map fun x => some x.2) : Go.AM.Ends Un O Tryd.prog fn c .ret st := ends_retS TBok h1 h2
theorem eN {O : Out} {fn : Func} {c : CSpec Un} {st : St Un} (h1 : (resD TB st fn.results.toList).map resOf = some c.r) (h2 : (c.bs'.map fun x => lookA st.hp x.1) = c.bs'.map fun x => some x.2) : Go.AM.Ends Un O Tryd.prog fn c .normal st := ends_normalS TBok h1 h2

theorem mvU : type_of% (@mv Un) := @mv Un
theorem cvR : type_of% (@Conv.refl Un) := @Conv.refl Un
theorem rgU : type_of% (@WpC.reg Un) := @WpC.reg Un
theorem caV : type_of% (@sok_callV Un) := @sok_callV Un
theorem cmU : type_of% (@sok_cmp Un) := @sok_cmp Un
theorem cvK : type_of% (@Conv.keep Un) := @Conv.keep Un
theorem mvA : type_of% (@mva Un) := @mva Un
theorem pkT : type_of% (@sok_pickT Un) := @sok_pickT Un
theorem pkF : type_of% (@sok_pickF Un) := @sok_pickF Un
theorem eqU : type_of% (@sok_eqPN Un) := @sok_eqPN Un
theorem moU : type_of% (@sok_move Un) := @sok_move Un
theorem sqJ : type_of% (@WpC.seqJ Un) := @WpC.seqJ Un
theorem cdU : type_of% (@WpC.cond Un) := @WpC.cond Un
theorem exU : type_of% (@sok_extract Un) := @sok_extract Un
theorem ldB : type_of% (@sok_loadB Un) := @sok_loadB Un
theorem cvT : type_of% (@Conv.trans Un) := @Conv.trans Un
theorem fdB : type_of% (@sok_fieldB Un) := @sok_fieldB Un
theorem neU : type_of% (@sok_neB Un) := @sok_neB Un
theorem nlU : type_of% (@sok_nilCheck Un) := @sok_nilCheck Un
theorem skU : type_of% (@sok_skip Un) := @sok_skip Un
theorem tnU : type_of% (@thenQ_normal Un) := @thenQ_normal Un
end Go.Proofs.YthmbbdemecljpaaDoor
