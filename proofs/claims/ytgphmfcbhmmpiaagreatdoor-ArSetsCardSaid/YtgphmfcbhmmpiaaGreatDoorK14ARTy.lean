/- A part of the proof of a given law: ARTy. Own work, printed in part by a program of mine. -/
import Derived.Test.YtgphmfcbhmmpiaaGreatDoorK14AmR7
import Derived.Test.YtgphmfcbhmmpiaaGreatDoorProg
namespace Go.Proofs.YtgphmfcbhmmpiaaGreatDoor
open Go Go.AM
set_option linter.unusedVariables false
set_option linter.unusedSimpArgs false
set_option maxRecDepth 100000
structure T_runtime_boundsError where
  f_x : Int
  f_y : Int
  f_signed : Bool
  f_code : Int
  deriving Inhabited
structure T_runtime_errorAddressString where
  f_msg : List UInt8
  f_addr : Int
  deriving Inhabited
structure T_ar_Member where
  f_Name : List UInt8
  f_Time : Int
  f_Content : List UInt8
  deriving Inhabited
structure T_strconv_NumError where
  f_Func : List UInt8
  f_Num : List UInt8
  f_Err : Nat
  deriving Inhabited
structure T_utf8_acceptRange where
  f_lo : Int
  f_hi : Int
  deriving Inhabited
structure T_errors_errorString where
  f_s : List UInt8
  deriving Inhabited
structure T_reflectlite_ValueError where
  f_Method : List UInt8
  f_Kind : Int
  deriving Inhabited
structure T_abi_UncommonType where
  f_PkgPath : Int
  f_Mcount : Int
  f_Xcount : Int
  f_Moff : Int
  f_blank4 : Int
  deriving Inhabited
structure T_abi_Method where
  f_Name : Int
  f_Mtyp : Int
  f_Ifn : Int
  f_Tfn : Int
  deriving Inhabited
def UnT : Nat → Type := fun n => match n with | 0 => T_runtime_boundsError | 1 => T_runtime_errorAddressString | 2 => Unit | 3 => T_ar_Member | 4 => Unit | 5 => Unit | 6 => T_strconv_NumError | 7 => T_utf8_acceptRange | 8 => T_errors_errorString | 9 => Unit | 10 => Unit | 11 => Unit | 12 => T_reflectlite_ValueError | 13 => T_abi_UncommonType | 14 => T_abi_Method | _ + 15 => Unit
def UnB : Nat → Ty := fun n => match n with | 0 => (.pair (.int .i64) (.pair (.int .i64) (.pair .bool (.pair (.int .u8) .unit)))) | 1 => (.pair .str (.pair (.int .u64) .unit)) | 2 => .unit | 3 => (.pair .str (.pair (.int .i64) (.pair .str .unit))) | 4 => .unit | 5 => .unit | 6 => (.pair .str (.pair .str (.pair .err .unit))) | 7 => (.pair (.int .u8) (.pair (.int .u8) .unit)) | 8 => (.pair .str .unit) | 9 => .unit | 10 => .unit | 11 => .unit | 12 => (.pair .str (.pair (.int .u8) .unit)) | 13 => (.pair (.int .i32) (.pair (.int .u16) (.pair (.int .u16) (.pair (.int .u32) (.pair (.int .u32) .unit))))) | 14 => (.pair (.int .i32) (.pair (.int .i32) (.pair (.int .i32) (.pair (.int .i32) .unit)))) | _ + 15 => .unit
def UnOut : (n : Nat) → UnT n → (UnB n).den UnT := fun n => match n with | 0 => fun x => (x.f_x, x.f_y, x.f_signed, x.f_code, ()) | 1 => fun x => (x.f_msg, x.f_addr, ()) | 2 => fun _ => () | 3 => fun x => (x.f_Name, x.f_Time, x.f_Content, ()) | 4 => fun _ => () | 5 => fun _ => () | 6 => fun x => (x.f_Func, x.f_Num, x.f_Err, ()) | 7 => fun x => (x.f_lo, x.f_hi, ()) | 8 => fun x => (x.f_s, ()) | 9 => fun _ => () | 10 => fun _ => () | 11 => fun _ => () | 12 => fun x => (x.f_Method, x.f_Kind, ()) | 13 => fun x => (x.f_PkgPath, x.f_Mcount, x.f_Xcount, x.f_Moff, x.f_blank4, ()) | 14 => fun x => (x.f_Name, x.f_Mtyp, x.f_Ifn, x.f_Tfn, ()) | _ + 15 => fun _ => ()
def UnInn : (n : Nat) → (UnB n).den UnT → UnT n := fun n => match n with | 0 => fun (x : Int × Int × Bool × Int × Unit) => (T_runtime_boundsError.mk x.1 x.2.1 x.2.2.1 x.2.2.2.1 : T_runtime_boundsError) | 1 => fun (x : (List UInt8) × Int × Unit) => (T_runtime_errorAddressString.mk x.1 x.2.1 : T_runtime_errorAddressString) | 2 => fun _ => () | 3 => fun (x : (List UInt8) × Int × (List UInt8) × Unit) => (T_ar_Member.mk x.1 x.2.1 x.2.2.1 : T_ar_Member) | 4 => fun _ => () | 5 => fun _ => () | 6 => fun (x : (List UInt8) × (List UInt8) × Nat × Unit) => (T_strconv_NumError.mk x.1 x.2.1 x.2.2.1 : T_strconv_NumError) | 7 => fun (x : Int × Int × Unit) => (T_utf8_acceptRange.mk x.1 x.2.1 : T_utf8_acceptRange) | 8 => fun (x : (List UInt8) × Unit) => (T_errors_errorString.mk x.1 : T_errors_errorString) | 9 => fun _ => () | 10 => fun _ => () | 11 => fun _ => () | 12 => fun (x : (List UInt8) × Int × Unit) => (T_reflectlite_ValueError.mk x.1 x.2.1 : T_reflectlite_ValueError) | 13 => fun (x : Int × Int × Int × Int × Int × Unit) => (T_abi_UncommonType.mk x.1 x.2.1 x.2.2.1 x.2.2.2.1 x.2.2.2.2.1 : T_abi_UncommonType) | 14 => fun (x : Int × Int × Int × Int × Unit) => (T_abi_Method.mk x.1 x.2.1 x.2.2.1 x.2.2.2.1 : T_abi_Method) | _ + 15 => fun _ => ()
def UnW : Nat → Nat := fun n => match n with | 0 => 4 | 1 => 2 | 2 => 0 | 3 => 3 | 4 => 0 | 5 => 0 | 6 => 3 | 7 => 2 | 8 => 1 | 9 => 0 | 10 => 0 | 11 => 0 | 12 => 2 | 13 => 5 | 14 => 4 | _ + 15 => 0
def UnF : Nat → Bool := fun n => match n with | 0 => true | 1 => true | 2 => true | 3 => true | 4 => true | 5 => true | 6 => true | 7 => true | 8 => true | 9 => true | 10 => true | 11 => true | 12 => true | 13 => true | 14 => true | _ + 15 => true
theorem un_out_inn : ∀ n x, UnOut n (UnInn n x) = x := by
  intro n
  match n with
  | 0 => exact fun _ => rfl
  | 1 => exact fun _ => rfl
  | 2 => exact fun _ => rfl
  | 3 => exact fun _ => rfl
  | 4 => exact fun _ => rfl
  | 5 => exact fun _ => rfl
  | 6 => exact fun _ => rfl
  | 7 => exact fun _ => rfl
  | 8 => exact fun _ => rfl
  | 9 => exact fun _ => rfl
  | 10 => exact fun _ => rfl
  | 11 => exact fun _ => rfl
  | 12 => exact fun _ => rfl
  | 13 => exact fun _ => rfl
  | 14 => exact fun _ => rfl
  | _ + 15 => exact fun _ => rfl
theorem un_inn_out : ∀ n x, UnInn n (UnOut n x) = x := by
  intro n
  match n with
  | 0 => exact fun x => by cases x; rfl
  | 1 => exact fun x => by cases x; rfl
  | 2 => exact fun _ => rfl
  | 3 => exact fun x => by cases x; rfl
  | 4 => exact fun _ => rfl
  | 5 => exact fun _ => rfl
  | 6 => exact fun x => by cases x; rfl
  | 7 => exact fun x => by cases x; rfl
  | 8 => exact fun x => by cases x; rfl
  | 9 => exact fun _ => rfl
  | 10 => exact fun _ => rfl
  | 11 => exact fun _ => rfl
  | 12 => exact fun x => by cases x; rfl
  | 13 => exact fun x => by cases x; rfl
  | 14 => exact fun x => by cases x; rfl
  | _ + 15 => exact fun _ => rfl
theorem un_wd : ∀ n, (UnB n).width UnW = UnW n := by
  intro n
  match n with
  | 0 => rfl
  | 1 => rfl
  | 2 => rfl
  | 3 => rfl
  | 4 => rfl
  | 5 => rfl
  | 6 => rfl
  | 7 => rfl
  | 8 => rfl
  | 9 => rfl
  | 10 => rfl
  | 11 => rfl
  | 12 => rfl
  | 13 => rfl
  | 14 => rfl
  | _ + 15 => rfl
theorem un_fl : ∀ n, UnF n = true → (UnB n).flat UnF = true := by
  intro n
  match n with
  | 0 => exact fun h => by first | rfl | cases h
  | 1 => exact fun h => by first | rfl | cases h
  | 2 => exact fun h => by first | rfl | cases h
  | 3 => exact fun h => by first | rfl | cases h
  | 4 => exact fun h => by first | rfl | cases h
  | 5 => exact fun h => by first | rfl | cases h
  | 6 => exact fun h => by first | rfl | cases h
  | 7 => exact fun h => by first | rfl | cases h
  | 8 => exact fun h => by first | rfl | cases h
  | 9 => exact fun h => by first | rfl | cases h
  | 10 => exact fun h => by first | rfl | cases h
  | 11 => exact fun h => by first | rfl | cases h
  | 12 => exact fun h => by first | rfl | cases h
  | 13 => exact fun h => by first | rfl | cases h
  | 14 => exact fun h => by first | rfl | cases h
  | _ + 15 => exact fun _ => rfl
def Un : Univ where
  T := UnT
  body := UnB
  out := UnOut
  inn := UnInn
  out_inn := un_out_inn
  inn_out := un_inn_out
  wd := UnW
  wd_ok := un_wd
  fl := UnF
  fl_ok := un_fl
theorem mixed : Tryz.prog.follows .mixedOrders = true := by kernel_rfl
theorem az_35 : ∃ v cs, (Tryz.prog.info? 35).bind (·.zero) = some v ∧ v.cells.toList = cs ∧ ZU Un [.p .str ([] : List UInt8), .p (.int .i64) (0 : Int), .p .str ([] : List UInt8)] cs := ⟨(.agg #[.string ByteArray.empty, .int .i64 0, .string ByteArray.empty]), _, by kernel_rfl, rfl, (.data (fun _ _ _ => rd_str0) (.data (fun _ _ _ => .int _ _) (.data (fun _ _ _ => rd_str0) .nil)))⟩
theorem az_45 : ∃ v cs, (Tryz.prog.info? 45).bind (·.zero) = some v ∧ v.cells.toList = cs ∧ ZU Un [.p .str ([] : List UInt8), .p (.int .i64) (0 : Int), .p .str ([] : List UInt8)] cs := ⟨(.agg #[.string ByteArray.empty, .int .i64 0, .string ByteArray.empty]), _, by kernel_rfl, rfl, (.data (fun _ _ _ => rd_str0) (.data (fun _ _ _ => .int _ _) (.data (fun _ _ _ => rd_str0) .nil)))⟩
theorem ty_9 : TyOk Tryz.prog Un 9 .str := tyOk_mk (c := 1) (by kernel_rfl) rfl Tryz.underlying9 rfl
theorem ty_3 : TyOk Tryz.prog Un 3 (.int .i64) := tyOk_mk (c := 1) (by kernel_rfl) rfl Tryz.underlying3 rfl
theorem eqf_35 : ∀ fs, Tryz.prog.underlying 35 = some (.struct fs) → EqF Tryz.prog Un fs.toList 0 (Un.body 3) := fun fs h => by
  rw [Tryz.underlying35] at h
  cases h
  exact (.cons (by decide) rfl ty_9 (.str Tryz.underlying9) (.cons (by decide) rfl ty_3 (.int Tryz.underlying3) (.cons (by decide) rfl ty_9 (.str Tryz.underlying9) .nil)))
theorem eqf_45 : ∀ fs, Tryz.prog.underlying 45 = some (.struct fs) → EqF Tryz.prog Un fs.toList 0 (Un.body 3) := fun fs h => by
  rw [Tryz.underlying45] at h
  cases h
  exact (.cons (by decide) rfl ty_9 (.str Tryz.underlying9) (.cons (by decide) rfl ty_3 (.int Tryz.underlying3) (.cons (by decide) rfl ty_9 (.str Tryz.underlying9) .nil)))
theorem fd_35_0 : FdOk Tryz.prog Un 35 0 0 9 .str := ⟨⟨_, _, Tryz.underlying35, rfl, rfl, rfl⟩, ty_9⟩
theorem fd_35_1 : FdOk Tryz.prog Un 35 1 1 3 (.int .i64) := ⟨⟨_, _, Tryz.underlying35, rfl, rfl, rfl⟩, ty_3⟩
theorem fd_35_2 : FdOk Tryz.prog Un 35 2 2 9 .str := ⟨⟨_, _, Tryz.underlying35, rfl, rfl, rfl⟩, ty_9⟩
theorem fd_45_0 : FdOk Tryz.prog Un 45 0 0 9 .str := ⟨⟨_, _, Tryz.underlying45, rfl, rfl, rfl⟩, ty_9⟩
theorem fd_45_1 : FdOk Tryz.prog Un 45 1 1 3 (.int .i64) := ⟨⟨_, _, Tryz.underlying45, rfl, rfl, rfl⟩, ty_3⟩
theorem fd_45_2 : FdOk Tryz.prog Un 45 2 2 9 .str := ⟨⟨_, _, Tryz.underlying45, rfl, rfl, rfl⟩, ty_9⟩
theorem hb_6 : HasBody Tryz.prog 6 := ⟨⟨_, Tryz.func6, by kernel_rfl, rfl⟩⟩
theorem hb_7 : HasBody Tryz.prog 7 := ⟨⟨_, Tryz.func7, by kernel_rfl, rfl⟩⟩
theorem hb_8 : HasBody Tryz.prog 8 := ⟨⟨_, Tryz.func8, by kernel_rfl, rfl⟩⟩
theorem hb_9 : HasBody Tryz.prog 9 := ⟨⟨_, Tryz.func9, by kernel_rfl, rfl⟩⟩
theorem hb_10 : HasBody Tryz.prog 10 := ⟨⟨_, Tryz.func10, by kernel_rfl, rfl⟩⟩
theorem hb_11 : HasBody Tryz.prog 11 := ⟨⟨_, Tryz.func11, by kernel_rfl, rfl⟩⟩
theorem hb_12 : HasBody Tryz.prog 12 := ⟨⟨_, Tryz.func12, by kernel_rfl, rfl⟩⟩
theorem hb_13 : HasBody Tryz.prog 13 := ⟨⟨_, Tryz.func13, by kernel_rfl, rfl⟩⟩
theorem hb_14 : HasBody Tryz.prog 14 := ⟨⟨_, Tryz.func14, by kernel_rfl, rfl⟩⟩
theorem hb_15 : HasBody Tryz.prog 15 := ⟨⟨_, Tryz.func15, by kernel_rfl, rfl⟩⟩
theorem hb_16 : HasBody Tryz.prog 16 := ⟨⟨_, Tryz.func16, by kernel_rfl, rfl⟩⟩
theorem hb_17 : HasBody Tryz.prog 17 := ⟨⟨_, Tryz.func17, by kernel_rfl, rfl⟩⟩
theorem hb_18 : HasBody Tryz.prog 18 := ⟨⟨_, Tryz.func18, by kernel_rfl, rfl⟩⟩
theorem hb_19 : HasBody Tryz.prog 19 := ⟨⟨_, Tryz.func19, by kernel_rfl, rfl⟩⟩
theorem hb_20 : HasBody Tryz.prog 20 := ⟨⟨_, Tryz.func20, by kernel_rfl, rfl⟩⟩
theorem hb_21 : HasBody Tryz.prog 21 := ⟨⟨_, Tryz.func21, by kernel_rfl, rfl⟩⟩
theorem hb_22 : HasBody Tryz.prog 22 := ⟨⟨_, Tryz.func22, by kernel_rfl, rfl⟩⟩
theorem hb_23 : HasBody Tryz.prog 23 := ⟨⟨_, Tryz.func23, by kernel_rfl, rfl⟩⟩
theorem hb_24 : HasBody Tryz.prog 24 := ⟨⟨_, Tryz.func24, by kernel_rfl, rfl⟩⟩
theorem hb_25 : HasBody Tryz.prog 25 := ⟨⟨_, Tryz.func25, by kernel_rfl, rfl⟩⟩
theorem hb_26 : HasBody Tryz.prog 26 := ⟨⟨_, Tryz.func26, by kernel_rfl, rfl⟩⟩
theorem hb_27 : HasBody Tryz.prog 27 := ⟨⟨_, Tryz.func27, by kernel_rfl, rfl⟩⟩
theorem hb_28 : HasBody Tryz.prog 28 := ⟨⟨_, Tryz.func28, by kernel_rfl, rfl⟩⟩
theorem hb_29 : HasBody Tryz.prog 29 := ⟨⟨_, Tryz.func29, by kernel_rfl, rfl⟩⟩
theorem hb_30 : HasBody Tryz.prog 30 := ⟨⟨_, Tryz.func30, by kernel_rfl, rfl⟩⟩
theorem hb_31 : HasBody Tryz.prog 31 := ⟨⟨_, Tryz.func31, by kernel_rfl, rfl⟩⟩
theorem hb_32 : HasBody Tryz.prog 32 := ⟨⟨_, Tryz.func32, by kernel_rfl, rfl⟩⟩
theorem hb_33 : HasBody Tryz.prog 33 := ⟨⟨_, Tryz.func33, by kernel_rfl, rfl⟩⟩
theorem hb_34 : HasBody Tryz.prog 34 := ⟨⟨_, Tryz.func34, by kernel_rfl, rfl⟩⟩
theorem hb_35 : HasBody Tryz.prog 35 := ⟨⟨_, Tryz.func35, by kernel_rfl, rfl⟩⟩
theorem hb_36 : HasBody Tryz.prog 36 := ⟨⟨_, Tryz.func36, by kernel_rfl, rfl⟩⟩
theorem hb_37 : HasBody Tryz.prog 37 := ⟨⟨_, Tryz.func37, by kernel_rfl, rfl⟩⟩
theorem hb_38 : HasBody Tryz.prog 38 := ⟨⟨_, Tryz.func38, by kernel_rfl, rfl⟩⟩
theorem hb_39 : HasBody Tryz.prog 39 := ⟨⟨_, Tryz.func39, by kernel_rfl, rfl⟩⟩
theorem hb_40 : HasBody Tryz.prog 40 := ⟨⟨_, Tryz.func40, by kernel_rfl, rfl⟩⟩
theorem hb_41 : HasBody Tryz.prog 41 := ⟨⟨_, Tryz.func41, by kernel_rfl, rfl⟩⟩
theorem hb_44 : HasBody Tryz.prog 44 := ⟨⟨_, Tryz.func44, by kernel_rfl, rfl⟩⟩
theorem hb_45 : HasBody Tryz.prog 45 := ⟨⟨_, Tryz.func45, by kernel_rfl, rfl⟩⟩
theorem hb_46 : HasBody Tryz.prog 46 := ⟨⟨_, Tryz.func46, by kernel_rfl, rfl⟩⟩
theorem hb_47 : HasBody Tryz.prog 47 := ⟨⟨_, Tryz.func47, by kernel_rfl, rfl⟩⟩
theorem hb_49 : HasBody Tryz.prog 49 := ⟨⟨_, Tryz.func49, by kernel_rfl, rfl⟩⟩
theorem hb_50 : HasBody Tryz.prog 50 := ⟨⟨_, Tryz.func50, by kernel_rfl, rfl⟩⟩
theorem hb_51 : HasBody Tryz.prog 51 := ⟨⟨_, Tryz.func51, by kernel_rfl, rfl⟩⟩
theorem hb_52 : HasBody Tryz.prog 52 := ⟨⟨_, Tryz.func52, by kernel_rfl, rfl⟩⟩
theorem hb_54 : HasBody Tryz.prog 54 := ⟨⟨_, Tryz.func54, by kernel_rfl, rfl⟩⟩
theorem hb_59 : HasBody Tryz.prog 59 := ⟨⟨_, Tryz.func59, by kernel_rfl, rfl⟩⟩
theorem lays_35 : lays Tryz.prog 35 = some ([.string ByteArray.empty, .int .i64 0, .string ByteArray.empty], (fun i => ([(0, 1), (1, 1), (2, 1)] : List (Nat × Nat)).toArray[i]?)) := by kernel_rfl
theorem lays_45 : lays Tryz.prog 45 = some ([.string ByteArray.empty, .int .i64 0, .string ByteArray.empty], (fun i => ([(0, 1), (1, 1), (2, 1)] : List (Nat × Nat)).toArray[i]?)) := by kernel_rfl
theorem ty_35 : TyOk Tryz.prog Un 35 (.named 3) := tyOk_mk (c := 3) (by kernel_rfl) rfl Tryz.underlying35 rfl
theorem sl_22 : SlOk Tryz.prog Un 22 35 (.named 3) := ⟨Tryz.underlying22, ty_35⟩
theorem row_22 : RowOk Tryz.prog Un 22 35 (.named 3) 40 := rowOk_mk (c := 3) sl_22 (by kernel_rfl) rfl (by decide)
theorem ty_45 : TyOk Tryz.prog Un 45 (.named 3) := tyOk_mk (c := 3) (by kernel_rfl) rfl Tryz.underlying45 rfl
theorem sl_31 : SlOk Tryz.prog Un 31 45 (.named 3) := ⟨Tryz.underlying31, ty_45⟩
theorem row_31 : RowOk Tryz.prog Un 31 45 (.named 3) 40 := rowOk_mk (c := 3) sl_31 (by kernel_rfl) rfl (by decide)
theorem ty_26 : TyOk Tryz.prog Un 26 .err := tyOk_mk (c := 1) (by kernel_rfl) rfl Tryz.underlying26 rfl
theorem sl_54 : SlOk Tryz.prog Un 54 26 .err := ⟨Tryz.underlying54, ty_26⟩
theorem row_54 : RowOk Tryz.prog Un 54 26 .err 16 := rowOk_mk (c := 1) sl_54 (by kernel_rfl) rfl (by decide)
theorem sl_65 : SlOk Tryz.prog Un 65 9 .str := ⟨Tryz.underlying65, ty_9⟩
theorem row_65 : RowOk Tryz.prog Un 65 9 .str 16 := rowOk_mk (c := 1) sl_65 (by kernel_rfl) rfl (by decide)
noncomputable def TB : Tab Un where
  un := Tryz.prog.underlying
  ty := [(3, .int .i64), (9, .str), (26, .err), (35, .named 3), (45, .named 3)]
  sl := [(22, 35, .named 3), (31, 45, .named 3), (54, 26, .err), (65, 9, .str)]
  fd := [(35, 0, 0, .str), (35, 1, 1, .int .i64), (35, 2, 2, .str), (45, 0, 0, .str), (45, 1, 1, .int .i64), (45, 2, 2, .str)]
  ro := [(22, 35, .named 3, 40), (31, 45, .named 3, 40), (54, 26, .err, 16), (65, 9, .str, 16)]
  az := [(35, [.p .str ([] : List UInt8), .p (.int .i64) (0 : Int), .p .str ([] : List UInt8)]), (45, [.p .str ([] : List UInt8), .p (.int .i64) (0 : Int), .p .str ([] : List UInt8)])]
  bz := [(35, [.p .str ([] : List UInt8), .p (.int .i64) (0 : Int), .p .str ([] : List UInt8)], [(0, 1, .str), (1, 1, .int .i64), (2, 1, .str)]), (45, [.p .str ([] : List UInt8), .p (.int .i64) (0 : Int), .p .str ([] : List UInt8)], [(0, 1, .str), (1, 1, .int .i64), (2, 1, .str)])]
  hb := [6, 7, 8, 9, 10, 11, 12, 13, 14, 15, 16, 17, 18, 19, 20, 21, 22, 23, 24, 25, 26, 27, 28, 29, 30, 31, 32, 33, 34, 35, 36, 37, 38, 39, 40, 41, 44, 45, 46, 47, 49, 50, 51, 52, 54, 59]
theorem TBok : TbOk Tryz.prog Un TB where
  un := fun _ _ h => h
  ty := (.c ty_3 (.c ty_9 (.c ty_26 (.c ty_35 (.c ty_45 AllP.z)))))
  sl := (.c sl_22 (.c sl_31 (.c sl_54 (.c sl_65 AllP.z))))
  fd := (.c ⟨_, fd_35_0⟩ (.c ⟨_, fd_35_1⟩ (.c ⟨_, fd_35_2⟩ (.c ⟨_, fd_45_0⟩ (.c ⟨_, fd_45_1⟩ (.c ⟨_, fd_45_2⟩ AllP.z))))))
  ro := (.c row_22 (.c row_31 (.c row_54 (.c row_65 AllP.z))))
  mp := AllP.z
  zd := AllP.z
  az := (.c az_35 (.c az_45 AllP.z))
  bz := (.c ⟨_, _, lays_35, (.data (fun _ _ _ => rd_str0) (.data (fun _ _ _ => .int _ _) (.data (fun _ _ _ => rd_str0) .nil))), by kernel_rfl⟩ (.c ⟨_, _, lays_45, (.data (fun _ _ _ => rd_str0) (.data (fun _ _ _ => .int _ _) (.data (fun _ _ _ => rd_str0) .nil))), by kernel_rfl⟩ AllP.z))
  hb := (.c hb_6 (.c hb_7 (.c hb_8 (.c hb_9 (.c hb_10 (.c hb_11 (.c hb_12 (.c hb_13 (.c hb_14 (.c hb_15 (.c hb_16 (.c hb_17 (.c hb_18 (.c hb_19 (.c hb_20 (.c hb_21 (.c hb_22 (.c hb_23 (.c hb_24 (.c hb_25 (.c hb_26 (.c hb_27 (.c hb_28 (.c hb_29 (.c hb_30 (.c hb_31 (.c hb_32 (.c hb_33 (.c hb_34 (.c hb_35 (.c hb_36 (.c hb_37 (.c hb_38 (.c hb_39 (.c hb_40 (.c hb_41 (.c hb_44 (.c hb_45 (.c hb_46 (.c hb_47 (.c hb_49 (.c hb_50 (.c hb_51 (.c hb_52 (.c hb_54 (.c hb_59 AllP.z))))))))))))))))))))))))))))))))))))))))))))))
theorem rSC {O : Out} {B : Base} {id N : Nat} {ops : Array Oper} {st : St Un} {Q : PostQ Un} (x : RX Un O Tryz.prog ops) (ts ns : List Nat) (hN : B.n = N) (h1 : okS TB x st N = true) (h2 : obL TB x st = obR TB x st)  {st2 : St Un} (hcv : Conv Un O (nxS TB x st ts ns) st2) (hQ : Q .normal st2) : WpC Un O Tryz.prog B (.region id ops false) st Q := WpC.rS TBok x ts ns hN h1 h2 rfl hcv hQ
theorem rS {O : Out} {B : Base} {id N : Nat} {ops : Array Oper} {st : St Un} {Q : PostQ Un} (x : RX Un O Tryz.prog ops) (ts ns : List Nat) (hN : B.n = N) (h1 : okS TB x st N = true) (h2 : obL TB x st = obR TB x st)  (hQ : Q .normal (nxS TB x st ts ns)) : WpC Un O Tryz.prog B (.region id ops false) st Q := WpC.rS TBok x ts ns hN h1 h2 rfl (Conv.refl _) hQ
theorem rAC {O : Out} {B : Base} {id N : Nat} {ops : Array Oper} {st : St Un} {Q : PostQ Un} (x : RX Un O Tryz.prog ops) (ts ns : List Nat) (hN : B.n = N) (h1 : okS TB x st N = true) (h2 : obL TB x st = obR TB x st) (h4 : raS TB x st = true)  {st2 : St Un} (hcv : Conv Un O (nxS TB x st ts ns) st2) (hQ : Q .normal st2) : WpC Un O Tryz.prog B (.region id ops true) st Q := WpC.rA TBok mixed x ts ns hN h1 h2 h4 rfl hcv hQ
theorem rA {O : Out} {B : Base} {id N : Nat} {ops : Array Oper} {st : St Un} {Q : PostQ Un} (x : RX Un O Tryz.prog ops) (ts ns : List Nat) (hN : B.n = N) (h1 : okS TB x st N = true) (h2 : obL TB x st = obR TB x st) (h4 : raS TB x st = true)  (hQ : Q .normal (nxS TB x st ts ns)) : WpC Un O Tryz.prog B (.region id ops true) st Q := WpC.rA TBok mixed x ts ns hN h1 h2 h4 rfl (Conv.refl _) hQ
theorem cS {O : Out} {st : St Un} (l : List (CV Un O)) (h1 : cvOk l st = true) (h2 : cvL l st = cvR l st) : Conv Un O st (cvN l st) := Conv.S h1 h2
theorem tS : type_of% (@WpC.tS Un) := @WpC.tS Un
theorem sT : type_of% (@WpC.st Un) := @WpC.st Un
theorem eR {O : Out} {fn : Func} {c : CSpec Un} {st : St Un} (h1 : (resD TB st fn.results.toList).map resOf = some c.r) (h2 : (c.bs'.map fun x => lookA st.hp x.1) = c.bs'.map fun x => some x.2) : Go.AM.Ends Un O Tryz.prog fn c .ret st := ends_retS TBok h1 h2
theorem eN {O : Out} {fn : Func} {c : CSpec Un} {st : St Un} (h1 : (resD TB st fn.results.toList).map resOf = some c.r) (h2 : (c.bs'.map fun x => lookA st.hp x.1) = c.bs'.map fun x => some x.2) : Go.AM.Ends Un O Tryz.prog fn c .normal st := ends_normalS TBok h1 h2

theorem mvU : type_of% (@mv Un) := @mv Un
theorem cvR : type_of% (@Conv.refl Un) := @Conv.refl Un
theorem rgU : type_of% (@WpC.reg Un) := @WpC.reg Un
theorem caV : type_of% (@sok_callV Un) := @sok_callV Un
theorem cmU : type_of% (@sok_cmp Un) := @sok_cmp Un
theorem cvK : type_of% (@Conv.keep Un) := @Conv.keep Un
theorem mvA : type_of% (@mva Un) := @mva Un
theorem pkT : type_of% (@sok_pickT Un) := @sok_pickT Un
theorem pkF : type_of% (@sok_pickF Un) := @sok_pickF Un
theorem eqU : type_of% (@sok_eqPN Un) := @sok_eqPN Un
theorem moU : type_of% (@sok_move Un) := @sok_move Un
theorem sqJ : type_of% (@WpC.seqJ Un) := @WpC.seqJ Un
theorem cdU : type_of% (@WpC.cond Un) := @WpC.cond Un
theorem exU : type_of% (@sok_extract Un) := @sok_extract Un
theorem ldB : type_of% (@sok_loadB Un) := @sok_loadB Un
theorem cvT : type_of% (@Conv.trans Un) := @Conv.trans Un
theorem fdB : type_of% (@sok_fieldB Un) := @sok_fieldB Un
theorem neU : type_of% (@sok_neB Un) := @sok_neB Un
theorem nlU : type_of% (@sok_nilCheck Un) := @sok_nilCheck Un
theorem skU : type_of% (@sok_skip Un) := @sok_skip Un
theorem tnU : type_of% (@thenQ_normal Un) := @thenQ_normal Un
end Go.Proofs.YtgphmfcbhmmpiaaGreatDoor
