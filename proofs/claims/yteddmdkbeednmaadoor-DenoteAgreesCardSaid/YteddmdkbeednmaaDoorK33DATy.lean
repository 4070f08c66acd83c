/- A part of the proof of a given law: DATy. Own work, printed in part by a program of mine. -/
import Derived.Test.YteddmdkbeednmaaDoorK33AmR6
import Derived.Test.YteddmdkbeednmaaDoorProg
namespace Go.Proofs.YteddmdkbeednmaaDoor
open Go Go.AM
set_option linter.unusedVariables false
set_option linter.unusedSimpArgs false
set_option maxRecDepth 100000
set_option maxHeartbeats 4000000
structure T_runtime_boundsError where
  f_x : Int
  f_y : Int
  f_signed : Bool
  f_code : Int
  deriving Inhabited
structure T_runtime_errorAddressString where
  f_msg : List UInt8
  f_addr : Int
  deriving Inhabited
inductive T_rex_Node where
  | mk (f_Kind : Int) (f_Index : Int) (f_Set : List Int) (f_Kids : List T_rex_Node)
def T_rex_Node.f_Kind : T_rex_Node → Int | .mk x0 _ _ _ => x0
def T_rex_Node.f_Index : T_rex_Node → Int | .mk _ x1 _ _ => x1
def T_rex_Node.f_Set : T_rex_Node → List Int | .mk _ _ x2 _ => x2
def T_rex_Node.f_Kids : T_rex_Node → List T_rex_Node | .mk _ _ _ x3 => x3
inductive T_millwrightref07_Node where
  | mk (f_Kind : Int) (f_Index : Int) (f_Set : List Int) (f_Kids : List T_millwrightref07_Node)
def T_millwrightref07_Node.f_Kind : T_millwrightref07_Node → Int | .mk x0 _ _ _ => x0
def T_millwrightref07_Node.f_Index : T_millwrightref07_Node → Int | .mk _ x1 _ _ => x1
def T_millwrightref07_Node.f_Set : T_millwrightref07_Node → List Int | .mk _ _ x2 _ => x2
def T_millwrightref07_Node.f_Kids : T_millwrightref07_Node → List T_millwrightref07_Node | .mk _ _ _ x3 => x3
structure T_prog_Instr where
  f_Op : Int
  f_X : Int
  f_Y : Int
  f_Set : List Int
  deriving Inhabited
structure T_rex_parser where
  f_s : List UInt8
  f_at : Int
  f_groups : Int
  f_bad : Bool
  deriving Inhabited
structure T_pike_thread where
  f_at : Int
  f_kept : List Int
  deriving Inhabited
structure T_prog_writer where
  f_code : List T_prog_Instr
  deriving Inhabited
structure T_reflectlite_ValueError where
  f_Method : List UInt8
  f_Kind : Int
  deriving Inhabited
structure T_errors_errorString where
  f_s : List UInt8
  deriving Inhabited
structure T_abi_UncommonType where
  f_PkgPath : Int
  f_Mcount : Int
  f_Xcount : Int
  f_Moff : Int
  f_blank4 : Int
  deriving Inhabited
structure T_abi_Method where
  f_Name : Int
  f_Mtyp : Int
  f_Ifn : Int
  f_Tfn : Int
  deriving Inhabited
def UnT : Nat → Type := fun n => match n with | 0 => T_runtime_boundsError | 1 => T_runtime_errorAddressString | 2 => Unit | 3 => T_rex_Node | 4 => T_millwrightref07_Node | 5 => T_prog_Instr | 6 => T_rex_parser | 7 => T_pike_thread | 8 => Unit | 9 => T_prog_writer | 10 => Unit | 11 => Unit | 12 => Unit | 13 => Unit | 14 => T_reflectlite_ValueError | 15 => T_errors_errorString | 16 => T_abi_UncommonType | 17 => T_abi_Method | _ + 18 => Unit
def UnB : Nat → Ty := fun n => match n with | 0 => (.pair (.int .i64) (.pair (.int .i64) (.pair .bool (.pair (.int .u8) .unit)))) | 1 => (.pair .str (.pair (.int .u64) .unit)) | 2 => .unit | 3 => (.pair (.int .i64) (.pair (.int .i64) (.pair (.arr 4 (.int .u64)) (.pair (.list (.named 3)) .unit)))) | 4 => (.pair (.int .i64) (.pair (.int .i64) (.pair (.arr 4 (.int .u64)) (.pair (.list (.named 4)) .unit)))) | 5 => (.pair (.int .i64) (.pair (.int .i64) (.pair (.int .i64) (.pair (.arr 4 (.int .u64)) .unit)))) | 6 => (.pair .str (.pair (.int .i64) (.pair (.int .i64) (.pair .bool .unit)))) | 7 => (.pair (.int .i64) (.pair (.arr 20 (.int .i64)) .unit)) | 8 => .unit | 9 => (.pair (.list (.named 5)) .unit) | 10 => .unit | 11 => .unit | 12 => .unit | 13 => .unit | 14 => (.pair .str (.pair (.int .u8) .unit)) | 15 => (.pair .str .unit) | 16 => (.pair (.int .i32) (.pair (.int .u16) (.pair (.int .u16) (.pair (.int .u32) (.pair (.int .u32) .unit))))) | 17 => (.pair (.int .i32) (.pair (.int .i32) (.pair (.int .i32) (.pair (.int .i32) .unit)))) | _ + 18 => .unit
def UnOut : (n : Nat) → UnT n → (UnB n).den UnT := fun n => match n with | 0 => fun x => (x.f_x, x.f_y, x.f_signed, x.f_code, ()) | 1 => fun x => (x.f_msg, x.f_addr, ()) | 2 => fun _ => () | 3 => fun x => (x.f_Kind, x.f_Index, x.f_Set, x.f_Kids, ()) | 4 => fun x => (x.f_Kind, x.f_Index, x.f_Set, x.f_Kids, ()) | 5 => fun x => (x.f_Op, x.f_X, x.f_Y, x.f_Set, ()) | 6 => fun x => (x.f_s, x.f_at, x.f_groups, x.f_bad, ()) | 7 => fun x => (x.f_at, x.f_kept, ()) | 8 => fun _ => () | 9 => fun x => (x.f_code, ()) | 10 => fun _ => () | 11 => fun _ => () | 12 => fun _ => () | 13 => fun _ => () | 14 => fun x => (x.f_Method, x.f_Kind, ()) | 15 => fun x => (x.f_s, ()) | 16 => fun x => (x.f_PkgPath, x.f_Mcount, x.f_Xcount, x.f_Moff, x.f_blank4, ()) | 17 => fun x => (x.f_Name, x.f_Mtyp, x.f_Ifn, x.f_Tfn, ()) | _ + 18 => fun _ => ()
def UnInn : (n : Nat) → (UnB n).den UnT → UnT n := fun n => match n with | 0 => fun (x : Int × Int × Bool × Int × Unit) => (T_runtime_boundsError.mk x.1 x.2.1 x.2.2.1 x.2.2.2.1 : T_runtime_boundsError) | 1 => fun (x : (List UInt8) × Int × Unit) => (T_runtime_errorAddressString.mk x.1 x.2.1 : T_runtime_errorAddressString) | 2 => fun _ => () | 3 => fun (x : Int × Int × (List Int) × (List T_rex_Node) × Unit) => (T_rex_Node.mk x.1 x.2.1 x.2.2.1 x.2.2.2.1 : T_rex_Node) | 4 => fun (x : Int × Int × (List Int) × (List T_millwrightref07_Node) × Unit) => (T_millwrightref07_Node.mk x.1 x.2.1 x.2.2.1 x.2.2.2.1 : T_millwrightref07_Node) | 5 => fun (x : Int × Int × Int × (List Int) × Unit) => (T_prog_Instr.mk x.1 x.2.1 x.2.2.1 x.2.2.2.1 : T_prog_Instr) | 6 => fun (x : (List UInt8) × Int × Int × Bool × Unit) => (T_rex_parser.mk x.1 x.2.1 x.2.2.1 x.2.2.2.1 : T_rex_parser) | 7 => fun (x : Int × (List Int) × Unit) => (T_pike_thread.mk x.1 x.2.1 : T_pike_thread) | 8 => fun _ => () | 9 => fun (x : (List T_prog_Instr) × Unit) => (T_prog_writer.mk x.1 : T_prog_writer) | 10 => fun _ => () | 11 => fun _ => () | 12 => fun _ => () | 13 => fun _ => () | 14 => fun (x : (List UInt8) × Int × Unit) => (T_reflectlite_ValueError.mk x.1 x.2.1 : T_reflectlite_ValueError) | 15 => fun (x : (List UInt8) × Unit) => (T_errors_errorString.mk x.1 : T_errors_errorString) | 16 => fun (x : Int × Int × Int × Int × Int × Unit) => (T_abi_UncommonType.mk x.1 x.2.1 x.2.2.1 x.2.2.2.1 x.2.2.2.2.1 : T_abi_UncommonType) | 17 => fun (x : Int × Int × Int × Int × Unit) => (T_abi_Method.mk x.1 x.2.1 x.2.2.1 x.2.2.2.1 : T_abi_Method) | _ + 18 => fun _ => ()
def UnW : Nat → Nat := fun n => match n with | 0 => 4 | 1 => 2 | 2 => 0 | 3 => 7 | 4 => 7 | 5 => 7 | 6 => 4 | 7 => 21 | 8 => 0 | 9 => 1 | 10 => 0 | 11 => 0 | 12 => 0 | 13 => 0 | 14 => 2 | 15 => 1 | 16 => 5 | 17 => 4 | _ + 18 => 0
def UnF : Nat → Bool := fun n => match n with | 0 => true | 1 => true | 2 => true | 3 => false | 4 => false | 5 => true | 6 => true | 7 => true | 8 => true | 9 => false | 10 => true | 11 => true | 12 => true | 13 => true | 14 => true | 15 => true | 16 => true | 17 => true | _ + 18 => true
theorem un_out_inn : ∀ n x, UnOut n (UnInn n x) = x := by
  intro n
  match n with
  | 0 => exact fun _ => rfl
  | 1 => exact fun _ => rfl
  | 2 => exact fun _ => rfl
  | 3 => exact fun _ => rfl
  | 4 => exact fun _ => rfl
  | 5 => exact fun _ => rfl
  | 6 => exact fun _ => rfl
  | 7 => exact fun _ => rfl
  | 8 => exact fun _ => rfl
  | 9 => exact fun _ => rfl
  | 10 => exact fun _ => rfl
  | 11 => exact fun _ => rfl
  | 12 => exact fun _ => rfl
  | 13 => exact fun _ => rfl
  | 14 => exact fun _ => rfl
  | 15 => exact fun _ => rfl
  | 16 => exact fun _ => rfl
  | 17 => exact fun _ => rfl
  | _ + 18 => exact fun _ => rfl
theorem un_inn_out : ∀ n x, UnInn n (UnOut n x) = x := by
  intro n
  match n with
  | 0 => exact fun x => by cases x; rfl
  | 1 => exact fun x => by cases x; rfl
  | 2 => exact fun _ => rfl
  | 3 => exact fun x => by cases x; rfl
  | 4 => exact fun x => by cases x; rfl
  | 5 => exact fun x => by cases x; rfl
  | 6 => exact fun x => by cases x; rfl
  | 7 => exact fun x => by cases x; rfl
  | 8 => exact fun _ => rfl
  | 9 => exact fun x => by cases x; rfl
  | 10 => exact fun _ => rfl
  | 11 => exact fun _ => rfl
  | 12 => exact fun _ => rfl
  | 13 => exact fun _ => rfl
  | 14 => exact fun x => by cases x; rfl
  | 15 => exact fun x => by cases x; rfl
  | 16 => exact fun x => by cases x; rfl
  | 17 => exact fun x => by cases x; rfl
  | _ + 18 => exact fun _ => rfl
theorem un_wd : ∀ n, (UnB n).width UnW = UnW n := by
  intro n
  match n with
  | 0 => rfl
  | 1 => rfl
  | 2 => rfl
  | 3 => rfl
  | 4 => rfl
  | 5 => rfl
  | 6 => rfl
  | 7 => rfl
  | 8 => rfl
  | 9 => rfl
  | 10 => rfl
  | 11 => rfl
  | 12 => rfl
  | 13 => rfl
  | 14 => rfl
  | 15 => rfl
  | 16 => rfl
  | 17 => rfl
  | _ + 18 => rfl
theorem un_fl : ∀ n, UnF n = true → (UnB n).flat UnF = true := by
  intro n
  match n with
  | 0 => exact fun h => by first | rfl | cases h
  | 1 => exact fun h => by first | rfl | cases h
  | 2 => exact fun h => by first | rfl | cases h
  | 3 => exact fun h => by first | rfl | cases h
  | 4 => exact fun h => by first | rfl | cases h
  | 5 => exact fun h => by first | rfl | cases h
  | 6 => exact fun h => by first | rfl | cases h
  | 7 => exact fun h => by first | rfl | cases h
  | 8 => exact fun h => by first | rfl | cases h
  | 9 => exact fun h => by first | rfl | cases h
  | 10 => exact fun h => by first | rfl | cases h
  | 11 => exact fun h => by first | rfl | cases h
  | 12 => exact fun h => by first | rfl | cases h
  | 13 => exact fun h => by first | rfl | cases h
  | 14 => exact fun h => by first | rfl | cases h
  | 15 => exact fun h => by first | rfl | cases h
  | 16 => exact fun h => by first | rfl | cases h
  | 17 => exact fun h => by first | rfl | cases h
  | _ + 18 => exact fun _ => rfl
def Un : Univ where
  T := UnT
  body := UnB
  out := UnOut
  inn := UnInn
  out_inn := un_out_inn
  inn_out := un_inn_out
  wd := UnW
  wd_ok := un_wd
  fl := UnF
  fl_ok := un_fl
theorem mixed : Tryd.prog.follows .mixedOrders = true := by kernel_rfl
theorem az_24 : ∃ v cs, (Tryd.prog.info? 24).bind (·.zero) = some v ∧ v.cells.toList = cs ∧ ZU Un [.p (.arr 4 (.int .u64)) ((List.replicate 4 (0 : Int)) : List Int)] cs := ⟨(.agg #[.int .u64 0, .int .u64 0, .int .u64 0, .int .u64 0]), _, by kernel_rfl, rfl, (.data (rd_zeros _ _) .nil)⟩
theorem az_27 : ∃ v cs, (Tryd.prog.info? 27).bind (·.zero) = some v ∧ v.cells.toList = cs ∧ ZU Un [.p (.int .i64) (0 : Int), .p (.int .i64) (0 : Int), .p (.arr 4 (.int .u64)) ((List.replicate 4 (0 : Int)) : List Int), .p (.list (.named 3)) ([] : List T_rex_Node)] cs := ⟨(.agg #[.int .i64 0, .int .i64 0, .int .u64 0, .int .u64 0, .int .u64 0, .int .u64 0, .slice none 0 0]), _, by kernel_rfl, rfl, (.data (fun _ _ _ => .int _ _) (.data (fun _ _ _ => .int _ _) (.data (rd_zeros _ _) (.data (fun _ _ _ => .lnil _) .nil))))⟩
theorem az_86 : ∃ v cs, (Tryd.prog.info? 86).bind (·.zero) = some v ∧ v.cells.toList = cs ∧ ZU Un [.p (.arr 20 (.int .i64)) ((List.replicate 20 (0 : Int)) : List Int)] cs := ⟨(.agg #[.int .i64 0, .int .i64 0, .int .i64 0, .int .i64 0, .int .i64 0, .int .i64 0, .int .i64 0, .int .i64 0, .int .i64 0, .int .i64 0, .int .i64 0, .int .i64 0, .int .i64 0, .int .i64 0, .int .i64 0, .int .i64 0, .int .i64 0, .int .i64 0, .int .i64 0, .int .i64 0]), _, by kernel_rfl, rfl, (.data (rd_zeros _ _) .nil)⟩
theorem az_101 : ∃ v cs, (Tryd.prog.info? 101).bind (·.zero) = some v ∧ v.cells.toList = cs ∧ ZU Un [.lit (.slice none 0 0)] cs := ⟨(.agg #[.slice none 0 0]), _, by kernel_rfl, rfl, (.lit rfl .nil)⟩
theorem az_104 : ∃ v cs, (Tryd.prog.info? 104).bind (·.zero) = some v ∧ v.cells.toList = cs ∧ ZU Un [.p (.int .i64) (0 : Int), .p (.int .i64) (0 : Int), .p (.int .i64) (0 : Int), .p (.arr 4 (.int .u64)) ((List.replicate 4 (0 : Int)) : List Int)] cs := ⟨(.agg #[.int .i64 0, .int .i64 0, .int .i64 0, .int .u64 0, .int .u64 0, .int .u64 0, .int .u64 0]), _, by kernel_rfl, rfl, (.data (fun _ _ _ => .int _ _) (.data (fun _ _ _ => .int _ _) (.data (fun _ _ _ => .int _ _) (.data (rd_zeros _ _) .nil))))⟩
theorem az_111 : ∃ v cs, (Tryd.prog.info? 111).bind (·.zero) = some v ∧ v.cells.toList = cs ∧ ZU Un [.p (.int .i64) (0 : Int), .p (.arr 20 (.int .i64)) ((List.replicate 20 (0 : Int)) : List Int)] cs := ⟨(.agg #[.int .i64 0, .int .i64 0, .int .i64 0, .int .i64 0, .int .i64 0, .int .i64 0, .int .i64 0, .int .i64 0, .int .i64 0, .int .i64 0, .int .i64 0, .int .i64 0, .int .i64 0, .int .i64 0, .int .i64 0, .int .i64 0, .int .i64 0, .int .i64 0, .int .i64 0, .int .i64 0, .int .i64 0]), _, by kernel_rfl, rfl, (.data (fun _ _ _ => .int _ _) (.data (rd_zeros _ _) .nil))⟩
theorem ty_3 : TyOk Tryd.prog Un 3 (.int .i64) := tyOk_mk (c := 1) (by kernel_rfl) rfl Tryd.underlying3 rfl
theorem fd_27_0 : FdOk Tryd.prog Un 27 0 0 3 (.int .i64) := ⟨⟨_, _, Tryd.underlying27, rfl, rfl, rfl⟩, ty_3⟩
theorem fd_27_1 : FdOk Tryd.prog Un 27 1 1 3 (.int .i64) := ⟨⟨_, _, Tryd.underlying27, rfl, rfl, rfl⟩, ty_3⟩
theorem ty_24 : TyOk Tryd.prog Un 24 (.arr 4 (.int .u64)) := tyOk_mk (c := 4) (by kernel_rfl) rfl Tryd.underlying24 rfl
theorem fd_27_2 : FdOk Tryd.prog Un 27 2 2 24 (.arr 4 (.int .u64)) := ⟨⟨_, _, Tryd.underlying27, rfl, rfl, rfl⟩, ty_24⟩
theorem ty_25 : TyOk Tryd.prog Un 25 (.list (.named 3)) := tyOk_mk (c := 1) (by kernel_rfl) rfl Tryd.underlying25 rfl
theorem fd_27_3 : FdOk Tryd.prog Un 27 3 6 25 (.list (.named 3)) := ⟨⟨_, _, Tryd.underlying27, rfl, rfl, rfl⟩, ty_25⟩
theorem ty_9 : TyOk Tryd.prog Un 9 .str := tyOk_mk (c := 1) (by kernel_rfl) rfl Tryd.underlying9 rfl
theorem fd_74_0 : FdOk Tryd.prog Un 74 0 0 9 .str := ⟨⟨_, _, Tryd.underlying74, rfl, rfl, rfl⟩, ty_9⟩
theorem fd_74_1 : FdOk Tryd.prog Un 74 1 1 3 (.int .i64) := ⟨⟨_, _, Tryd.underlying74, rfl, rfl, rfl⟩, ty_3⟩
theorem fd_74_2 : FdOk Tryd.prog Un 74 2 2 3 (.int .i64) := ⟨⟨_, _, Tryd.underlying74, rfl, rfl, rfl⟩, ty_3⟩
theorem ty_4 : TyOk Tryd.prog Un 4 .bool := tyOk_mk (c := 1) (by kernel_rfl) rfl Tryd.underlying4 rfl
theorem fd_74_3 : FdOk Tryd.prog Un 74 3 3 4 .bool := ⟨⟨_, _, Tryd.underlying74, rfl, rfl, rfl⟩, ty_4⟩
theorem ty_53 : TyOk Tryd.prog Un 53 (.list (.named 5)) := tyOk_mk (c := 1) (by kernel_rfl) rfl Tryd.underlying53 rfl
theorem fd_84_0 : FdOk Tryd.prog Un 84 0 0 53 (.list (.named 5)) := ⟨⟨_, _, Tryd.underlying84, rfl, rfl, rfl⟩, ty_53⟩
theorem fd_84_1 : FdOk Tryd.prog Un 84 1 1 9 .str := ⟨⟨_, _, Tryd.underlying84, rfl, rfl, rfl⟩, ty_9⟩
theorem fd_84_2 : FdOk Tryd.prog Un 84 2 2 3 (.int .i64) := ⟨⟨_, _, Tryd.underlying84, rfl, rfl, rfl⟩, ty_3⟩
theorem ty_31 : TyOk Tryd.prog Un 31 (.list (.int .i64)) := tyOk_mk (c := 1) (by kernel_rfl) rfl Tryd.underlying31 rfl
theorem fd_84_3 : FdOk Tryd.prog Un 84 3 3 31 (.list (.int .i64)) := ⟨⟨_, _, Tryd.underlying84, rfl, rfl, rfl⟩, ty_31⟩
theorem ty_81 : TyOk Tryd.prog Un 81 (.list (.named 7)) := tyOk_mk (c := 1) (by kernel_rfl) rfl Tryd.underlying81 rfl
theorem fd_84_4 : FdOk Tryd.prog Un 84 4 4 81 (.list (.named 7)) := ⟨⟨_, _, Tryd.underlying84, rfl, rfl, rfl⟩, ty_81⟩
theorem ty_82 : TyOk Tryd.prog Un 82 (.ptr (.arr 20 (.int .i64))) := tyOk_mk (c := 1) (by kernel_rfl) rfl Tryd.underlying82 rfl
theorem fd_84_5 : FdOk Tryd.prog Un 84 5 5 82 (.ptr (.arr 20 (.int .i64))) := ⟨⟨_, _, Tryd.underlying84, rfl, rfl, rfl⟩, ty_82⟩
theorem fd_101_0 : FdOk Tryd.prog Un 101 0 0 53 (.list (.named 5)) := ⟨⟨_, _, Tryd.underlying101, rfl, rfl, rfl⟩, ty_53⟩
theorem fd_104_0 : FdOk Tryd.prog Un 104 0 0 3 (.int .i64) := ⟨⟨_, _, Tryd.underlying104, rfl, rfl, rfl⟩, ty_3⟩
theorem fd_104_1 : FdOk Tryd.prog Un 104 1 1 3 (.int .i64) := ⟨⟨_, _, Tryd.underlying104, rfl, rfl, rfl⟩, ty_3⟩
theorem fd_104_2 : FdOk Tryd.prog Un 104 2 2 3 (.int .i64) := ⟨⟨_, _, Tryd.underlying104, rfl, rfl, rfl⟩, ty_3⟩
theorem fd_104_3 : FdOk Tryd.prog Un 104 3 3 24 (.arr 4 (.int .u64)) := ⟨⟨_, _, Tryd.underlying104, rfl, rfl, rfl⟩, ty_24⟩
theorem fd_111_0 : FdOk Tryd.prog Un 111 0 0 3 (.int .i64) := ⟨⟨_, _, Tryd.underlying111, rfl, rfl, rfl⟩, ty_3⟩
theorem ty_86 : TyOk Tryd.prog Un 86 (.arr 20 (.int .i64)) := tyOk_mk (c := 20) (by kernel_rfl) rfl Tryd.underlying86 rfl
theorem fd_111_1 : FdOk Tryd.prog Un 111 1 1 86 (.arr 20 (.int .i64)) := ⟨⟨_, _, Tryd.underlying111, rfl, rfl, rfl⟩, ty_86⟩
theorem hb_7 : HasBody Tryd.prog 7 := ⟨⟨_, Tryd.func7, by kernel_rfl, rfl⟩⟩
theorem hb_9 : HasBody Tryd.prog 9 := ⟨⟨_, Tryd.func9, by kernel_rfl, rfl⟩⟩
theorem hb_10 : HasBody Tryd.prog 10 := ⟨⟨_, Tryd.func10, by kernel_rfl, rfl⟩⟩
theorem hb_18 : HasBody Tryd.prog 18 := ⟨⟨_, Tryd.func18, by kernel_rfl, rfl⟩⟩
theorem hb_19 : HasBody Tryd.prog 19 := ⟨⟨_, Tryd.func19, by kernel_rfl, rfl⟩⟩
theorem hb_22 : HasBody Tryd.prog 22 := ⟨⟨_, Tryd.func22, by kernel_rfl, rfl⟩⟩
theorem hb_24 : HasBody Tryd.prog 24 := ⟨⟨_, Tryd.func24, by kernel_rfl, rfl⟩⟩
theorem hb_25 : HasBody Tryd.prog 25 := ⟨⟨_, Tryd.func25, by kernel_rfl, rfl⟩⟩
theorem hb_26 : HasBody Tryd.prog 26 := ⟨⟨_, Tryd.func26, by kernel_rfl, rfl⟩⟩
theorem hb_27 : HasBody Tryd.prog 27 := ⟨⟨_, Tryd.func27, by kernel_rfl, rfl⟩⟩
theorem hb_28 : HasBody Tryd.prog 28 := ⟨⟨_, Tryd.func28, by kernel_rfl, rfl⟩⟩
theorem hb_29 : HasBody Tryd.prog 29 := ⟨⟨_, Tryd.func29, by kernel_rfl, rfl⟩⟩
theorem hb_31 : HasBody Tryd.prog 31 := ⟨⟨_, Tryd.func31, by kernel_rfl, rfl⟩⟩
theorem hb_32 : HasBody Tryd.prog 32 := ⟨⟨_, Tryd.func32, by kernel_rfl, rfl⟩⟩
theorem hb_33 : HasBody Tryd.prog 33 := ⟨⟨_, Tryd.func33, by kernel_rfl, rfl⟩⟩
theorem hb_34 : HasBody Tryd.prog 34 := ⟨⟨_, Tryd.func34, by kernel_rfl, rfl⟩⟩
theorem hb_35 : HasBody Tryd.prog 35 := ⟨⟨_, Tryd.func35, by kernel_rfl, rfl⟩⟩
theorem hb_36 : HasBody Tryd.prog 36 := ⟨⟨_, Tryd.func36, by kernel_rfl, rfl⟩⟩
theorem hb_40 : HasBody Tryd.prog 40 := ⟨⟨_, Tryd.func40, by kernel_rfl, rfl⟩⟩
theorem hb_43 : HasBody Tryd.prog 43 := ⟨⟨_, Tryd.func43, by kernel_rfl, rfl⟩⟩
theorem hb_44 : HasBody Tryd.prog 44 := ⟨⟨_, Tryd.func44, by kernel_rfl, rfl⟩⟩
theorem hb_45 : HasBody Tryd.prog 45 := ⟨⟨_, Tryd.func45, by kernel_rfl, rfl⟩⟩
theorem hb_46 : HasBody Tryd.prog 46 := ⟨⟨_, Tryd.func46, by kernel_rfl, rfl⟩⟩
theorem hb_47 : HasBody Tryd.prog 47 := ⟨⟨_, Tryd.func47, by kernel_rfl, rfl⟩⟩
theorem hb_48 : HasBody Tryd.prog 48 := ⟨⟨_, Tryd.func48, by kernel_rfl, rfl⟩⟩
theorem hb_49 : HasBody Tryd.prog 49 := ⟨⟨_, Tryd.func49, by kernel_rfl, rfl⟩⟩
theorem hb_50 : HasBody Tryd.prog 50 := ⟨⟨_, Tryd.func50, by kernel_rfl, rfl⟩⟩
theorem hb_51 : HasBody Tryd.prog 51 := ⟨⟨_, Tryd.func51, by kernel_rfl, rfl⟩⟩
theorem hb_52 : HasBody Tryd.prog 52 := ⟨⟨_, Tryd.func52, by kernel_rfl, rfl⟩⟩
theorem hb_53 : HasBody Tryd.prog 53 := ⟨⟨_, Tryd.func53, by kernel_rfl, rfl⟩⟩
theorem hb_54 : HasBody Tryd.prog 54 := ⟨⟨_, Tryd.func54, by kernel_rfl, rfl⟩⟩
theorem hb_55 : HasBody Tryd.prog 55 := ⟨⟨_, Tryd.func55, by kernel_rfl, rfl⟩⟩
theorem hb_56 : HasBody Tryd.prog 56 := ⟨⟨_, Tryd.func56, by kernel_rfl, rfl⟩⟩
theorem hb_58 : HasBody Tryd.prog 58 := ⟨⟨_, Tryd.func58, by kernel_rfl, rfl⟩⟩
theorem hb_59 : HasBody Tryd.prog 59 := ⟨⟨_, Tryd.func59, by kernel_rfl, rfl⟩⟩
theorem hb_60 : HasBody Tryd.prog 60 := ⟨⟨_, Tryd.func60, by kernel_rfl, rfl⟩⟩
theorem hb_61 : HasBody Tryd.prog 61 := ⟨⟨_, Tryd.func61, by kernel_rfl, rfl⟩⟩
theorem hb_62 : HasBody Tryd.prog 62 := ⟨⟨_, Tryd.func62, by kernel_rfl, rfl⟩⟩
theorem hb_63 : HasBody Tryd.prog 63 := ⟨⟨_, Tryd.func63, by kernel_rfl, rfl⟩⟩
theorem hb_66 : HasBody Tryd.prog 66 := ⟨⟨_, Tryd.func66, by kernel_rfl, rfl⟩⟩
theorem hb_67 : HasBody Tryd.prog 67 := ⟨⟨_, Tryd.func67, by kernel_rfl, rfl⟩⟩
theorem hb_69 : HasBody Tryd.prog 69 := ⟨⟨_, Tryd.func69, by kernel_rfl, rfl⟩⟩
theorem hb_70 : HasBody Tryd.prog 70 := ⟨⟨_, Tryd.func70, by kernel_rfl, rfl⟩⟩
theorem hb_71 : HasBody Tryd.prog 71 := ⟨⟨_, Tryd.func71, by kernel_rfl, rfl⟩⟩
theorem hb_72 : HasBody Tryd.prog 72 := ⟨⟨_, Tryd.func72, by kernel_rfl, rfl⟩⟩
theorem hb_73 : HasBody Tryd.prog 73 := ⟨⟨_, Tryd.func73, by kernel_rfl, rfl⟩⟩
theorem hb_74 : HasBody Tryd.prog 74 := ⟨⟨_, Tryd.func74, by kernel_rfl, rfl⟩⟩
theorem hb_75 : HasBody Tryd.prog 75 := ⟨⟨_, Tryd.func75, by kernel_rfl, rfl⟩⟩
theorem hb_77 : HasBody Tryd.prog 77 := ⟨⟨_, Tryd.func77, by kernel_rfl, rfl⟩⟩
theorem hb_78 : HasBody Tryd.prog 78 := ⟨⟨_, Tryd.func78, by kernel_rfl, rfl⟩⟩
theorem hb_79 : HasBody Tryd.prog 79 := ⟨⟨_, Tryd.func79, by kernel_rfl, rfl⟩⟩
theorem hb_80 : HasBody Tryd.prog 80 := ⟨⟨_, Tryd.func80, by kernel_rfl, rfl⟩⟩
theorem hb_81 : HasBody Tryd.prog 81 := ⟨⟨_, Tryd.func81, by kernel_rfl, rfl⟩⟩
theorem hb_82 : HasBody Tryd.prog 82 := ⟨⟨_, Tryd.func82, by kernel_rfl, rfl⟩⟩
theorem hb_84 : HasBody Tryd.prog 84 := ⟨⟨_, Tryd.func84, by kernel_rfl, rfl⟩⟩
theorem hb_85 : HasBody Tryd.prog 85 := ⟨⟨_, Tryd.func85, by kernel_rfl, rfl⟩⟩
theorem hb_86 : HasBody Tryd.prog 86 := ⟨⟨_, Tryd.func86, by kernel_rfl, rfl⟩⟩
theorem hb_87 : HasBody Tryd.prog 87 := ⟨⟨_, Tryd.func87, by kernel_rfl, rfl⟩⟩
theorem lays_24 : lays Tryd.prog 24 = some ([.int .u64 0, .int .u64 0, .int .u64 0, .int .u64 0], (fun i => some (i * 1, 1))) := by kernel_rfl
theorem lays_27 : lays Tryd.prog 27 = some ([.int .i64 0, .int .i64 0, .int .u64 0, .int .u64 0, .int .u64 0, .int .u64 0, .slice none 0 0], (fun i => ([(0, 1), (1, 1), (2, 4), (6, 1)] : List (Nat × Nat)).toArray[i]?)) := by kernel_rfl
theorem lays_74 : lays Tryd.prog 74 = some ([.string ByteArray.empty, .int .i64 0, .int .i64 0, .bool false], (fun i => ([(0, 1), (1, 1), (2, 1), (3, 1)] : List (Nat × Nat)).toArray[i]?)) := by kernel_rfl
theorem lays_84 : lays Tryd.prog 84 = some ([.slice none 0 0, .string ByteArray.empty, .int .i64 0, .slice none 0 0, .slice none 0 0, .pointer none], (fun i => ([(0, 1), (1, 1), (2, 1), (3, 1), (4, 1), (5, 1)] : List (Nat × Nat)).toArray[i]?)) := by kernel_rfl
theorem lays_104 : lays Tryd.prog 104 = some ([.int .i64 0, .int .i64 0, .int .i64 0, .int .u64 0, .int .u64 0, .int .u64 0, .int .u64 0], (fun i => ([(0, 1), (1, 1), (2, 1), (3, 4)] : List (Nat × Nat)).toArray[i]?)) := by kernel_rfl
theorem lays_111 : lays Tryd.prog 111 = some ([.int .i64 0, .int .i64 0, .int .i64 0, .int .i64 0, .int .i64 0, .int .i64 0, .int .i64 0, .int .i64 0, .int .i64 0, .int .i64 0, .int .i64 0, .int .i64 0, .int .i64 0, .int .i64 0, .int .i64 0, .int .i64 0, .int .i64 0, .int .i64 0, .int .i64 0, .int .i64 0, .int .i64 0], (fun i => ([(0, 1), (1, 20)] : List (Nat × Nat)).toArray[i]?)) := by kernel_rfl
theorem ty_27 : TyOk Tryd.prog Un 27 (.named 3) := tyOk_mk (c := 7) (by kernel_rfl) rfl Tryd.underlying27 rfl
theorem sl_25 : SlOk Tryd.prog Un 25 27 (.named 3) := ⟨Tryd.underlying25, ty_27⟩
theorem row_25 : RowOk Tryd.prog Un 25 27 (.named 3) 72 := rowOk_mk (c := 7) sl_25 (by kernel_rfl) rfl (by decide)
theorem sl_31 : SlOk Tryd.prog Un 31 3 (.int .i64) := ⟨Tryd.underlying31, ty_3⟩
theorem row_31 : RowOk Tryd.prog Un 31 3 (.int .i64) 8 := rowOk_mk (c := 1) sl_31 (by kernel_rfl) rfl (by decide)
theorem ty_104 : TyOk Tryd.prog Un 104 (.named 5) := tyOk_mk (c := 7) (by kernel_rfl) rfl Tryd.underlying104 rfl
theorem sl_53 : SlOk Tryd.prog Un 53 104 (.named 5) := ⟨Tryd.underlying53, ty_104⟩
theorem row_53 : RowOk Tryd.prog Un 53 104 (.named 5) 56 := rowOk_mk (c := 7) sl_53 (by kernel_rfl) rfl (by decide)
theorem sl_66 : SlOk Tryd.prog Un 66 4 .bool := ⟨Tryd.underlying66, ty_4⟩
theorem row_66 : RowOk Tryd.prog Un 66 4 .bool 1 := rowOk_mk (c := 1) sl_66 (by kernel_rfl) rfl (by decide)
theorem ty_50 : TyOk Tryd.prog Un 50 .err := tyOk_mk (c := 1) (by kernel_rfl) rfl Tryd.underlying50 rfl
theorem sl_77 : SlOk Tryd.prog Un 77 50 .err := ⟨Tryd.underlying77, ty_50⟩
theorem row_77 : RowOk Tryd.prog Un 77 50 .err 16 := rowOk_mk (c := 1) sl_77 (by kernel_rfl) rfl (by decide)
theorem ty_111 : TyOk Tryd.prog Un 111 (.named 7) := tyOk_mk (c := 21) (by kernel_rfl) rfl Tryd.underlying111 rfl
theorem sl_81 : SlOk Tryd.prog Un 81 111 (.named 7) := ⟨Tryd.underlying81, ty_111⟩
theorem row_81 : RowOk Tryd.prog Un 81 111 (.named 7) 168 := rowOk_mk (c := 21) sl_81 (by kernel_rfl) rfl (by decide)
theorem ty_5 : TyOk Tryd.prog Un 5 (.int .u8) := tyOk_mk (c := 1) (by kernel_rfl) rfl Tryd.underlying5 rfl
theorem sl_134 : SlOk Tryd.prog Un 134 5 (.int .u8) := ⟨Tryd.underlying134, ty_5⟩
theorem row_134 : RowOk Tryd.prog Un 134 5 (.int .u8) 1 := rowOk_mk (c := 1) sl_134 (by kernel_rfl) rfl (by decide)
theorem ty_22 : TyOk Tryd.prog Un 22 (.int .u64) := tyOk_mk (c := 1) (by kernel_rfl) rfl Tryd.underlying22 rfl
theorem ty_74 : TyOk Tryd.prog Un 74 (.named 6) := tyOk_mk (c := 4) (by kernel_rfl) rfl Tryd.underlying74 rfl
theorem ty2_84 : TyOk Tryd.prog Un 84 (.arr 6 .bool) := tyOk_mk (c := 6) (by kernel_rfl) rfl Tryd.underlying84 rfl
theorem z0_3 : ZeroOk Tryd.prog Un 3 (.int .i64) (0 : Int) := zeroOk_int (by kernel_rfl)
theorem z0_4 : ZeroOk Tryd.prog Un 4 .bool false := zeroOk_bool (by kernel_rfl)
noncomputable def TB : Tab Un where
  un := Tryd.prog.underlying
  ty := [(3, .int .i64), (4, .bool), (5, .int .u8), (9, .str), (22, .int .u64), (24, .arr 4 (.int .u64)), (25, .list (.named 3)), (27, .named 3), (31, .list (.int .i64)), (50, .err), (53, .list (.named 5)), (74, .named 6), (81, .list (.named 7)), (82, .ptr (.arr 20 (.int .i64))), (86, .arr 20 (.int .i64)), (104, .named 5), (111, .named 7), (84, .arr 6 .bool)]
  sl := [(25, 27, .named 3), (31, 3, .int .i64), (53, 104, .named 5), (66, 4, .bool), (77, 50, .err), (81, 111, .named 7), (134, 5, .int .u8)]
  fd := [(27, 0, 0, .int .i64), (27, 1, 1, .int .i64), (27, 2, 2, .arr 4 (.int .u64)), (27, 3, 6, .list (.named 3)), (74, 0, 0, .str), (74, 1, 1, .int .i64), (74, 2, 2, .int .i64), (74, 3, 3, .bool), (84, 0, 0, .list (.named 5)), (84, 1, 1, .str), (84, 2, 2, .int .i64), (84, 3, 3, .list (.int .i64)), (84, 4, 4, .list (.named 7)), (84, 5, 5, .ptr (.arr 20 (.int .i64))), (101, 0, 0, .list (.named 5)), (104, 0, 0, .int .i64), (104, 1, 1, .int .i64), (104, 2, 2, .int .i64), (104, 3, 3, .arr 4 (.int .u64)), (111, 0, 0, .int .i64), (111, 1, 1, .arr 20 (.int .i64))]
  ro := [(25, 27, .named 3, 72), (31, 3, .int .i64, 8), (53, 104, .named 5, 56), (66, 4, .bool, 1), (77, 50, .err, 16), (81, 111, .named 7, 168), (134, 5, .int .u8, 1)]
  zd := [(3, .p (.int .i64) (0 : Int)), (4, .p .bool false)]
  az := [(24, [.p (.arr 4 (.int .u64)) ((List.replicate 4 (0 : Int)) : List Int)]), (27, [.p (.int .i64) (0 : Int), .p (.int .i64) (0 : Int), .p (.arr 4 (.int .u64)) ((List.replicate 4 (0 : Int)) : List Int), .p (.list (.named 3)) ([] : List T_rex_Node)]), (86, [.p (.arr 20 (.int .i64)) ((List.replicate 20 (0 : Int)) : List Int)]), (101, [.lit (.slice none 0 0)]), (104, [.p (.int .i64) (0 : Int), .p (.int .i64) (0 : Int), .p (.int .i64) (0 : Int), .p (.arr 4 (.int .u64)) ((List.replicate 4 (0 : Int)) : List Int)]), (111, [.p (.int .i64) (0 : Int), .p (.arr 20 (.int .i64)) ((List.replicate 20 (0 : Int)) : List Int)])]
  bz := [(24, [.p (.arr 4 (.int .u64)) ((List.replicate 4 (0 : Int)) : List Int)], [(0, 1, .int .u64), (1, 1, .int .u64), (2, 1, .int .u64), (3, 1, .int .u64)]), (27, [.p (.int .i64) (0 : Int), .p (.int .i64) (0 : Int), .p (.arr 4 (.int .u64)) ((List.replicate 4 (0 : Int)) : List Int), .p (.list (.named 3)) ([] : List T_rex_Node)], [(0, 1, .int .i64), (1, 1, .int .i64), (2, 4, .arr 4 (.int .u64)), (6, 1, .list (.named 3))]), (74, [.p .str ([] : List UInt8), .p (.int .i64) (0 : Int), .p (.int .i64) (0 : Int), .p .bool false], [(0, 1, .str), (1, 1, .int .i64), (2, 1, .int .i64), (3, 1, .bool)]), (84, [.p (.list (.named 5)) ([] : List T_prog_Instr), .p .str ([] : List UInt8), .p (.int .i64) (0 : Int), .lit (.slice none 0 0), .lit (.slice none 0 0), .p (.ptr (.arr 20 (.int .i64))) none], [(0, 1, .list (.named 5)), (1, 1, .str), (2, 1, .int .i64), (3, 1, .list (.int .i64)), (4, 1, .list (.named 7)), (5, 1, .ptr (.arr 20 (.int .i64)))]), (104, [.p (.int .i64) (0 : Int), .p (.int .i64) (0 : Int), .p (.int .i64) (0 : Int), .p (.arr 4 (.int .u64)) ((List.replicate 4 (0 : Int)) : List Int)], [(0, 1, .int .i64), (1, 1, .int .i64), (2, 1, .int .i64), (3, 4, .arr 4 (.int .u64))]), (111, [.p (.int .i64) (0 : Int), .p (.arr 20 (.int .i64)) ((List.replicate 20 (0 : Int)) : List Int)], [(0, 1, .int .i64), (1, 20, .arr 20 (.int .i64))])]
  hb := [7, 9, 10, 18, 19, 22, 24, 25, 26, 27, 28, 29, 31, 32, 33, 34, 35, 36, 40, 43, 44, 45, 46, 47, 48, 49, 50, 51, 52, 53, 54, 55, 56, 58, 59, 60, 61, 62, 63, 66, 67, 69, 70, 71, 72, 73, 74, 75, 77, 78, 79, 80, 81, 82, 84, 85, 86, 87]
theorem TBok : TbOk Tryd.prog Un TB where
  un := fun _ _ h => h
  ty := (.c ty_3 (.c ty_4 (.c ty_5 (.c ty_9 (.c ty_22 (.c ty_24 (.c ty_25 (.c ty_27 (.c ty_31 (.c ty_50 (.c ty_53 (.c ty_74 (.c ty_81 (.c ty_82 (.c ty_86 (.c ty_104 (.c ty_111 (.c ty2_84 AllP.z))))))))))))))))))
  sl := (.c sl_25 (.c sl_31 (.c sl_53 (.c sl_66 (.c sl_77 (.c sl_81 (.c sl_134 AllP.z)))))))
  fd := (.c ⟨_, fd_27_0⟩ (.c ⟨_, fd_27_1⟩ (.c ⟨_, fd_27_2⟩ (.c ⟨_, fd_27_3⟩ (.c ⟨_, fd_74_0⟩ (.c ⟨_, fd_74_1⟩ (.c ⟨_, fd_74_2⟩ (.c ⟨_, fd_74_3⟩ (.c ⟨_, fd_84_0⟩ (.c ⟨_, fd_84_1⟩ (.c ⟨_, fd_84_2⟩ (.c ⟨_, fd_84_3⟩ (.c ⟨_, fd_84_4⟩ (.c ⟨_, fd_84_5⟩ (.c ⟨_, fd_101_0⟩ (.c ⟨_, fd_104_0⟩ (.c ⟨_, fd_104_1⟩ (.c ⟨_, fd_104_2⟩ (.c ⟨_, fd_104_3⟩ (.c ⟨_, fd_111_0⟩ (.c ⟨_, fd_111_1⟩ AllP.z)))))))))))))))))))))
  ro := (.c row_25 (.c row_31 (.c row_53 (.c row_66 (.c row_77 (.c row_81 (.c row_134 AllP.z)))))))
  mp := AllP.z
  zd := (.c z0_3 (.c z0_4 AllP.z))
  az := (.c az_24 (.c az_27 (.c az_86 (.c az_101 (.c az_104 (.c az_111 AllP.z))))))
  bz := (.c ⟨_, _, lays_24, (.data (rd_zeros _ _) .nil), by kernel_rfl⟩ (.c ⟨_, _, lays_27, (.data (fun _ _ _ => .int _ _) (.data (fun _ _ _ => .int _ _) (.data (rd_zeros _ _) (.data (fun _ _ _ => .lnil _) .nil)))), by kernel_rfl⟩ (.c ⟨_, _, lays_74, (.data (fun _ _ _ => rd_str0) (.data (fun _ _ _ => .int _ _) (.data (fun _ _ _ => .int _ _) (.data (fun _ _ _ => .bool _) .nil)))), by kernel_rfl⟩ (.c ⟨_, _, lays_84, (.data (fun _ _ _ => .lnil _) (.data (fun _ _ _ => rd_str0) (.data (fun _ _ _ => .int _ _) (.lit rfl (.lit rfl (.data (fun _ _ _ => .pnil _) .nil)))))), by kernel_rfl⟩ (.c ⟨_, _, lays_104, (.data (fun _ _ _ => .int _ _) (.data (fun _ _ _ => .int _ _) (.data (fun _ _ _ => .int _ _) (.data (rd_zeros _ _) .nil)))), by kernel_rfl⟩ (.c ⟨_, _, lays_111, (.data (fun _ _ _ => .int _ _) (.data (rd_zeros _ _) .nil)), by kernel_rfl⟩ AllP.z))))))
  hb := (.c hb_7 (.c hb_9 (.c hb_10 (.c hb_18 (.c hb_19 (.c hb_22 (.c hb_24 (.c hb_25 (.c hb_26 (.c hb_27 (.c hb_28 (.c hb_29 (.c hb_31 (.c hb_32 (.c hb_33 (.c hb_34 (.c hb_35 (.c hb_36 (.c hb_40 (.c hb_43 (.c hb_44 (.c hb_45 (.c hb_46 (.c hb_47 (.c hb_48 (.c hb_49 (.c hb_50 (.c hb_51 (.c hb_52 (.c hb_53 (.c hb_54 (.c hb_55 (.c hb_56 (.c hb_58 (.c hb_59 (.c hb_60 (.c hb_61 (.c hb_62 (.c hb_63 (.c hb_66 (.c hb_67 (.c hb_69 (.c hb_70 (.c hb_71 (.c hb_72 (.c hb_73 (.c hb_74 (.c hb_75 (.c hb_77 (.c hb_78 (.c hb_79 (.c hb_80 (.c hb_81 (.c hb_82 (.c hb_84 (.c hb_85 (.c hb_86 (.c hb_87 AllP.z))))))))))))))))))))))))))))))))))))))))))))))))))))))))))
theorem rSC {O : Out} {B : Base} {id N : Nat} {ops : Array Oper} {st : St Un} {Q : PostQ Un} (x : RX Un O Tryd.prog ops) (ts ns : List Nat) (hN : B.n = N) (h1 : okS TB x st N = true) (h2 : obL TB x st = obR TB x st)  {st2 : St Un} (hcv : Conv Un O (nxS TB x st ts ns) st2) (hQ : Q .normal st2) : WpC Un O Tryd.prog B (.region id ops false) st Q := WpC.rS TBok x ts ns hN h1 h2 rfl hcv hQ
theorem rS {O : Out} {B : Base} {id N : Nat} {ops : Array Oper} {st : St Un} {Q : PostQ Un} (x : RX Un O Tryd.prog ops) (ts ns : List Nat) (hN : B.n = N) (h1 : okS TB x st N = true) (h2 : obL TB x st = obR TB x st)  (hQ : Q .normal (nxS TB x st ts ns)) : WpC Un O Tryd.prog B (.region id ops false) st Q := WpC.rS TBok x ts ns hN h1 h2 rfl (Conv.refl _) hQ
theorem rAC {O : Out} {B : Base} {id N : Nat} {ops : Array Oper} {st : St Un} {Q : PostQ Un} (x : RX Un O Tryd.prog ops) (ts ns : List Nat) (hN : B.n = N) (h1 : okS TB x st N = true) (h2 : obL TB x st = obR TB x st) (h4 : raS TB x st = true)  {st2 : St Un} (hcv : Conv Un O (nxS TB x st ts ns) st2) (hQ : Q .normal st2) : WpC Un O Tryd.prog B (.region id ops true) st Q := WpC.rA TBok mixed x ts ns hN h1 h2 h4 rfl hcv hQ
theorem rA {O : Out} {B : Base} {id N : Nat} {ops : Array Oper} {st : St Un} {Q : PostQ Un} (x : RX Un O Tryd.prog ops) (ts ns : List Nat) (hN : B.n = N) (h1 : okS TB x st N = true) (h2 : obL TB x st = obR TB x st) (h4 : raS TB x st = true)  (hQ : Q .normal (nxS TB x st ts ns)) : WpC Un O Tryd.prog B (.region id ops true) st Q := WpC.rA TBok mixed x ts ns hN h1 h2 h4 rfl (Conv.refl _) hQ
theorem cS {O : Out} {st : St Un} (l : List (CV Un O)) (h1 : cvOk l st = true) (h2 : cvL l st = cvR l st) : Conv Un O st (cvN l st) := Conv.S h1 h2
theorem tS : type_of% (@WpC.tS Un) := @WpC.tS Un
theorem eR {O : Out} {fn : Func} {c : CSpec Un} {st : St Un} (h1 : (resD TB st fn.results.toList).map resOf = some c.r) (h2 : (c.bs'.map fun x => lookA st.hp x.1) = c.bs'.map fun x => some x.2) : Go.AM.Ends Un O Tryd.prog fn c .ret st := ends_retS TBok h1 h2
theorem eN {O : Out} {fn : Func} {c : CSpec Un} {st : St Un} (h1 : (resD TB st fn.results.toList).map resOf = some c.r) (h2 : (c.bs'.map fun x => lookA st.hp x.1) = c.bs'.map fun x => some x.2) : Go.AM.Ends Un O Tryd.prog fn c .normal st := ends_normalS TBok h1 h2

theorem cvR : type_of% (@Conv.refl Un) := @Conv.refl Un
theorem cvK : type_of% (@Conv.keep Un) := @Conv.keep Un
theorem sqJ : type_of% (@WpC.seqJ Un) := @WpC.seqJ Un
theorem tnU : type_of% (@thenQ_normal Un) := @thenQ_normal Un
end Go.Proofs.YteddmdkbeednmaaDoor
