/- A part of the proof of a given law: CYTy. Own work, printed in part by a program of mine. -/
import Derived.Test.YtlmhnhlmlhfigaaK42AmR5
import Derived.Test.YtlmhnhlmlhfigaaK42AmN5
import Derived.Test.YtlmhnhlmlhfigaaProg
namespace Go.Proofs.Ytlmhnhlmlhfigaa
open Go Go.AM
set_option linter.unusedVariables false
set_option linter.unusedSimpArgs false
set_option maxRecDepth 100000
set_option maxHeartbeats 4000000
structure T_runtime_boundsError where
  f_x : Int
  f_y : Int
  f_signed : Bool
  f_code : Int
  deriving Inhabited
structure T_runtime_errorAddressString where
  f_msg : List UInt8
  f_addr : Int
  deriving Inhabited
structure T_cycle_Node where
  f_Name : List UInt8
  f_To : List (List UInt8)
  deriving Inhabited
def UnT : Nat → Type := fun n => match n with | 0 => T_runtime_boundsError | 1 => T_runtime_errorAddressString | 2 => Unit | 3 => T_cycle_Node | _ + 4 => Unit
def UnB : Nat → Ty := fun n => match n with | 0 => (.pair (.int .i64) (.pair (.int .i64) (.pair .bool (.pair (.int .u8) .unit)))) | 1 => (.pair .str (.pair (.int .u64) .unit)) | 2 => .unit | 3 => (.pair .str (.pair (.list .str) .unit)) | _ + 4 => .unit
def UnOut : (n : Nat) → UnT n → (UnB n).den UnT := fun n => match n with | 0 => fun x => (x.f_x, x.f_y, x.f_signed, x.f_code, ()) | 1 => fun x => (x.f_msg, x.f_addr, ()) | 2 => fun _ => () | 3 => fun x => (x.f_Name, x.f_To, ()) | _ + 4 => fun _ => ()
def UnInn : (n : Nat) → (UnB n).den UnT → UnT n := fun n => match n with | 0 => fun (x : Int × Int × Bool × Int × Unit) => (T_runtime_boundsError.mk x.1 x.2.1 x.2.2.1 x.2.2.2.1 : T_runtime_boundsError) | 1 => fun (x : (List UInt8) × Int × Unit) => (T_runtime_errorAddressString.mk x.1 x.2.1 : T_runtime_errorAddressString) | 2 => fun _ => () | 3 => fun (x : (List UInt8) × (List (List UInt8)) × Unit) => (T_cycle_Node.mk x.1 x.2.1 : T_cycle_Node) | _ + 4 => fun _ => ()
def UnW : Nat → Nat := fun n => match n with | 0 => 4 | 1 => 2 | 2 => 0 | 3 => 2 | _ + 4 => 0
def UnF : Nat → Bool := fun n => match n with | 0 => true | 1 => true | 2 => true | 3 => false | _ + 4 => true
theorem un_out_inn : ∀ n x, UnOut n (UnInn n x) = x := by
  intro n
  match n with
  | 0 => exact fun _ => rfl
  | 1 => exact fun _ => rfl
  | 2 => exact fun _ => rfl
  | 3 => exact fun _ => rfl
  | _ + 4 => exact fun _ => rfl
theorem un_inn_out : ∀ n x, UnInn n (UnOut n x) = x := by
  intro n
  match n with
  | 0 => exact fun x => by cases x; rfl
  | 1 => exact fun x => by cases x; rfl
  | 2 => exact fun _ => rfl
  | 3 => exact fun x => by cases x; rfl
  | _ + 4 => exact fun _ => rfl
theorem un_wd : ∀ n, (UnB n).width UnW = UnW n := by
  intro n
  match n with
  | 0 => rfl
  | 1 => rfl
  | 2 => rfl
  | 3 => rfl
  | _ + 4 => rfl
theorem un_fl : ∀ n, UnF n = true → (UnB n).flat UnF = true := by
  intro n
  match n with
  | 0 => exact fun h => by first | rfl | cases h
  | 1 => exact fun h => by first | rfl | cases h
  | 2 => exact fun h => by first | rfl | cases h
  | 3 => exact fun h => by first | rfl | cases h
  | _ + 4 => exact fun _ => rfl
def Un : Univ where
  T := UnT
  body := UnB
  out := UnOut
  inn := UnInn
  out_inn := un_out_inn
  inn_out := un_inn_out
  wd := UnW
  wd_ok := un_wd
  fl := UnF
  fl_ok := un_fl
theorem mixed : Try.prog.follows .mixedOrders = true := by kernel_rfl
theorem az_42 : ∃ v cs, (Try.prog.info? 42).bind (·.zero) = some v ∧ v.cells.toList = cs ∧ ZU Un [.p .str ([] : List UInt8), .p (.list .str) ([] : List (List UInt8))] cs := ⟨(.agg #[.string ByteArray.empty, .slice none 0 0]), _, by kernel_rfl, rfl, (.data (fun _ _ _ => rd_str0) (.data (fun _ _ _ => .lnil _) .nil))⟩
theorem az_43 : ∃ v cs, (Try.prog.info? 43).bind (·.zero) = some v ∧ v.cells.toList = cs ∧ ZU Un [.p .str ([] : List UInt8), .p (.list .str) ([] : List (List UInt8))] cs := ⟨(.agg #[.string ByteArray.empty, .slice none 0 0]), _, by kernel_rfl, rfl, (.data (fun _ _ _ => rd_str0) (.data (fun _ _ _ => .lnil _) .nil))⟩
theorem az_52 : ∃ v cs, (Try.prog.info? 52).bind (·.zero) = some v ∧ v.cells.toList = cs ∧ ZU Un [.lit (.map none)] cs := ⟨(.map none), _, by kernel_rfl, rfl, (.lit rfl .nil)⟩
theorem ty_9 : TyOk Try.prog Un 9 .str := tyOk_mk (c := 1) (by kernel_rfl) rfl Try.underlying9 rfl
theorem fd_42_0 : FdOk Try.prog Un 42 0 0 9 .str := ⟨⟨_, _, Try.underlying42, rfl, rfl, rfl⟩, ty_9⟩
theorem ty_23 : TyOk Try.prog Un 23 (.list .str) := tyOk_mk (c := 1) (by kernel_rfl) rfl Try.underlying23 rfl
theorem fd_42_1 : FdOk Try.prog Un 42 1 1 23 (.list .str) := ⟨⟨_, _, Try.underlying42, rfl, rfl, rfl⟩, ty_23⟩
theorem fd_43_0 : FdOk Try.prog Un 43 0 0 9 .str := ⟨⟨_, _, Try.underlying43, rfl, rfl, rfl⟩, ty_9⟩
theorem fd_43_1 : FdOk Try.prog Un 43 1 1 23 (.list .str) := ⟨⟨_, _, Try.underlying43, rfl, rfl, rfl⟩, ty_23⟩
theorem hb_6 : HasBody Try.prog 6 := ⟨⟨_, Try.func6, by kernel_rfl, rfl⟩⟩
theorem hb_7 : HasBody Try.prog 7 := ⟨⟨_, Try.func7, by kernel_rfl, rfl⟩⟩
theorem hb_8 : HasBody Try.prog 8 := ⟨⟨_, Try.func8, by kernel_rfl, rfl⟩⟩
theorem hb_9 : HasBody Try.prog 9 := ⟨⟨_, Try.func9, by kernel_rfl, rfl⟩⟩
theorem hb_10 : HasBody Try.prog 10 := ⟨⟨_, Try.func10, by kernel_rfl, rfl⟩⟩
theorem hb_11 : HasBody Try.prog 11 := ⟨⟨_, Try.func11, by kernel_rfl, rfl⟩⟩
theorem hb_12 : HasBody Try.prog 12 := ⟨⟨_, Try.func12, by kernel_rfl, rfl⟩⟩
theorem hb_13 : HasBody Try.prog 13 := ⟨⟨_, Try.func13, by kernel_rfl, rfl⟩⟩
theorem hb_14 : HasBody Try.prog 14 := ⟨⟨_, Try.func14, by kernel_rfl, rfl⟩⟩
theorem hb_15 : HasBody Try.prog 15 := ⟨⟨_, Try.func15, by kernel_rfl, rfl⟩⟩
theorem hb_16 : HasBody Try.prog 16 := ⟨⟨_, Try.func16, by kernel_rfl, rfl⟩⟩
theorem hb_17 : HasBody Try.prog 17 := ⟨⟨_, Try.func17, by kernel_rfl, rfl⟩⟩
theorem hb_18 : HasBody Try.prog 18 := ⟨⟨_, Try.func18, by kernel_rfl, rfl⟩⟩
theorem hb_19 : HasBody Try.prog 19 := ⟨⟨_, Try.func19, by kernel_rfl, rfl⟩⟩
theorem hb_20 : HasBody Try.prog 20 := ⟨⟨_, Try.func20, by kernel_rfl, rfl⟩⟩
theorem hb_21 : HasBody Try.prog 21 := ⟨⟨_, Try.func21, by kernel_rfl, rfl⟩⟩
theorem hb_22 : HasBody Try.prog 22 := ⟨⟨_, Try.func22, by kernel_rfl, rfl⟩⟩
theorem hb_23 : HasBody Try.prog 23 := ⟨⟨_, Try.func23, by kernel_rfl, rfl⟩⟩
theorem hb_24 : HasBody Try.prog 24 := ⟨⟨_, Try.func24, by kernel_rfl, rfl⟩⟩
theorem hb_25 : HasBody Try.prog 25 := ⟨⟨_, Try.func25, by kernel_rfl, rfl⟩⟩
theorem hb_26 : HasBody Try.prog 26 := ⟨⟨_, Try.func26, by kernel_rfl, rfl⟩⟩
theorem hb_27 : HasBody Try.prog 27 := ⟨⟨_, Try.func27, by kernel_rfl, rfl⟩⟩
theorem hb_28 : HasBody Try.prog 28 := ⟨⟨_, Try.func28, by kernel_rfl, rfl⟩⟩
theorem hb_29 : HasBody Try.prog 29 := ⟨⟨_, Try.func29, by kernel_rfl, rfl⟩⟩
theorem hb_30 : HasBody Try.prog 30 := ⟨⟨_, Try.func30, by kernel_rfl, rfl⟩⟩
theorem hb_31 : HasBody Try.prog 31 := ⟨⟨_, Try.func31, by kernel_rfl, rfl⟩⟩
theorem hb_32 : HasBody Try.prog 32 := ⟨⟨_, Try.func32, by kernel_rfl, rfl⟩⟩
theorem hb_33 : HasBody Try.prog 33 := ⟨⟨_, Try.func33, by kernel_rfl, rfl⟩⟩
theorem hb_34 : HasBody Try.prog 34 := ⟨⟨_, Try.func34, by kernel_rfl, rfl⟩⟩
theorem hb_35 : HasBody Try.prog 35 := ⟨⟨_, Try.func35, by kernel_rfl, rfl⟩⟩
theorem hb_36 : HasBody Try.prog 36 := ⟨⟨_, Try.func36, by kernel_rfl, rfl⟩⟩
theorem hb_37 : HasBody Try.prog 37 := ⟨⟨_, Try.func37, by kernel_rfl, rfl⟩⟩
theorem hb_38 : HasBody Try.prog 38 := ⟨⟨_, Try.func38, by kernel_rfl, rfl⟩⟩
theorem hb_41 : HasBody Try.prog 41 := ⟨⟨_, Try.func41, by kernel_rfl, rfl⟩⟩
theorem lays_42 : lays Try.prog 42 = some ([.string ByteArray.empty, .slice none 0 0], (fun i => ([(0, 1), (1, 1)] : List (Nat × Nat)).toArray[i]?)) := by kernel_rfl
theorem map_46 : MapOk Try.prog 46 9 23 := ⟨Try.underlying46, Try.underlying9⟩
theorem map_52 : MapOk Try.prog 52 9 3 := ⟨Try.underlying52, Try.underlying9⟩
theorem ty_42 : TyOk Try.prog Un 42 (.named 3) := tyOk_mk (c := 2) (by kernel_rfl) rfl Try.underlying42 rfl
theorem sl_22 : SlOk Try.prog Un 22 42 (.named 3) := ⟨Try.underlying22, ty_42⟩
theorem row_22 : RowOk Try.prog Un 22 42 (.named 3) 40 := rowOk_mk (c := 2) sl_22 (by kernel_rfl) rfl (by decide)
theorem sl_23 : SlOk Try.prog Un 23 9 .str := ⟨Try.underlying23, ty_9⟩
theorem row_23 : RowOk Try.prog Un 23 9 .str 16 := rowOk_mk (c := 1) sl_23 (by kernel_rfl) rfl (by decide)
theorem ty_43 : TyOk Try.prog Un 43 (.named 3) := tyOk_mk (c := 2) (by kernel_rfl) rfl Try.underlying43 rfl
theorem sl_27 : SlOk Try.prog Un 27 43 (.named 3) := ⟨Try.underlying27, ty_43⟩
theorem row_27 : RowOk Try.prog Un 27 43 (.named 3) 40 := rowOk_mk (c := 2) sl_27 (by kernel_rfl) rfl (by decide)
theorem sl_57 : SlOk Try.prog Un 57 23 (.list .str) := ⟨Try.underlying57, ty_23⟩
theorem row_57 : RowOk Try.prog Un 57 23 (.list .str) 24 := rowOk_mk (c := 1) sl_57 (by kernel_rfl) rfl (by decide)
theorem ty_52 : TyOk Try.prog Un 52 .bool := tyOk_mk (c := 1) (by kernel_rfl) rfl Try.underlying52 rfl
theorem ty1_52 : TyOk Try.prog Un 52 .bool := tyOk_mk (c := 1) (by kernel_rfl) rfl Try.underlying52 rfl
theorem zv_3 : ZeroOk Try.prog Un 3 (.int .i64) (0 : Int) := zeroOk_mk (v := (.int .i64 0)) (by kernel_rfl) fun _ _ _ => ⟨_, (.int _ _), rfl⟩
theorem zv_23 : ZeroOk Try.prog Un 23 (.list .str) ([] : List (List UInt8)) := zeroOk_mk (v := (.slice none 0 0)) (by kernel_rfl) fun _ _ _ => ⟨_, (.lnil _), rfl⟩
noncomputable def TB : Tab Un where
  un := Try.prog.underlying
  ty := [(9, .str), (23, .list .str), (42, .named 3), (43, .named 3), (52, .bool), (52, .bool)]
  sl := [(22, 42, .named 3), (23, 9, .str), (27, 43, .named 3), (57, 23, .list .str)]
  fd := [(42, 0, 0, .str), (42, 1, 1, .list .str), (43, 0, 0, .str), (43, 1, 1, .list .str)]
  ro := [(22, 42, .named 3, 40), (23, 9, .str, 16), (27, 43, .named 3, 40), (57, 23, .list .str, 24)]
  mp := [(46, 9, 23), (52, 9, 3)]
  zd := [(3, .p (.int .i64) (0 : Int)), (23, .p (.list .str) ([] : List (List UInt8)))]
  az := [(42, [.p .str ([] : List UInt8), .p (.list .str) ([] : List (List UInt8))]), (43, [.p .str ([] : List UInt8), .p (.list .str) ([] : List (List UInt8))]), (52, [.lit (.map none)])]
  bz := [(42, [.p .str ([] : List UInt8), .p (.list .str) ([] : List (List UInt8))], [(0, 1, .str), (1, 1, .list .str)])]
  hb := [6, 7, 8, 9, 10, 11, 12, 13, 14, 15, 16, 17, 18, 19, 20, 21, 22, 23, 24, 25, 26, 27, 28, 29, 30, 31, 32, 33, 34, 35, 36, 37, 38, 41]
theorem TBok : TbOk Try.prog Un TB where
  un := fun _ _ h => h
  ty := (.c ty_9 (.c ty_23 (.c ty_42 (.c ty_43 (.c ty_52 (.c ty1_52 AllP.z))))))
  sl := (.c sl_22 (.c sl_23 (.c sl_27 (.c sl_57 AllP.z))))
  fd := (.c ⟨_, fd_42_0⟩ (.c ⟨_, fd_42_1⟩ (.c ⟨_, fd_43_0⟩ (.c ⟨_, fd_43_1⟩ AllP.z))))
  ro := (.c row_22 (.c row_23 (.c row_27 (.c row_57 AllP.z))))
  mp := (.c map_46 (.c map_52 AllP.z))
  zd := (.c zv_3 (.c zv_23 AllP.z))
  az := (.c az_42 (.c az_43 (.c az_52 AllP.z)))
  bz := (.c ⟨_, _, lays_42, (.data (fun _ _ _ => rd_str0) (.data (fun _ _ _ => .lnil _) .nil)), by kernel_rfl⟩ AllP.z)
  hb := (.c hb_6 (.c hb_7 (.c hb_8 (.c hb_9 (.c hb_10 (.c hb_11 (.c hb_12 (.c hb_13 (.c hb_14 (.c hb_15 (.c hb_16 (.c hb_17 (.c hb_18 (.c hb_19 (.c hb_20 (.c hb_21 (.c hb_22 (.c hb_23 (.c hb_24 (.c hb_25 (.c hb_26 (.c hb_27 (.c hb_28 (.c hb_29 (.c hb_30 (.c hb_31 (.c hb_32 (.c hb_33 (.c hb_34 (.c hb_35 (.c hb_36 (.c hb_37 (.c hb_38 (.c hb_41 AllP.z))))))))))))))))))))))))))))))))))
theorem rSC {O : Out} {B : Base} {id N : Nat} {ops : Array Oper} {st : St Un} {Q : PostQ Un} (x : RX Un O Try.prog ops) (ts ns : List Nat) (hN : B.n = N) (h1 : okS TB x st N = true) (h2 : obL TB x st = obR TB x st)  {st2 : St Un} (hcv : Conv Un O (nxS TB x st ts ns) st2) (hQ : Q .normal st2) : WpC Un O Try.prog B (.region id ops false) st Q := WpC.rS TBok x ts ns hN h1 h2 rfl hcv hQ
theorem rS {O : Out} {B : Base} {id N : Nat} {ops : Array Oper} {st : St Un} {Q : PostQ Un} (x : RX Un O Try.prog ops) (ts ns : List Nat) (hN : B.n = N) (h1 : okS TB x st N = true) (h2 : obL TB x st = obR TB x st)  (hQ : Q .normal (nxS TB x st ts ns)) : WpC Un O Try.prog B (.region id ops false) st Q := WpC.rS TBok x ts ns hN h1 h2 rfl (Conv.refl _) hQ
theorem rA {O : Out} {B : Base} {id N : Nat} {ops : Array Oper} {st : St Un} {Q : PostQ Un} (x : RX Un O Try.prog ops) (ts ns : List Nat) (hN : B.n = N) (h1 : okS TB x st N = true) (h2 : obL TB x st = obR TB x st) (h4 : raS TB x st = true)  (hQ : Q .normal (nxS TB x st ts ns)) : WpC Un O Try.prog B (.region id ops true) st Q := WpC.rA TBok mixed x ts ns hN h1 h2 h4 rfl (Conv.refl _) hQ
theorem cS {O : Out} {st : St Un} (l : List (CV Un O)) (h1 : cvOk l st = true) (h2 : cvL l st = cvR l st) : Conv Un O st (cvN l st) := Conv.S h1 h2
theorem tS : type_of% (@WpC.tS Un) := @WpC.tS Un
theorem sT : type_of% (@WpC.st Un) := @WpC.st Un
theorem eR {O : Out} {fn : Func} {c : CSpec Un} {st : St Un} (h1 : (resD TB st fn.results.toList).map resOf = some c.r) (h2 : (c.bs'.map fun x => lookA st.hp x.1) = c.bs'.map fun x => some x.2) : Go.AM.Ends Un O Try.prog fn c .ret st := ends_retS TBok h1 h2
theorem cvR : type_of% (@Conv.refl Un) := @Conv.refl Un
theorem cvK : type_of% (@Conv.keep Un) := @Conv.keep Un
theorem moU : type_of% (@sok_move Un) := @sok_move Un
theorem sqJ : type_of% (@WpC.seqJ Un) := @WpC.seqJ Un
theorem tnU : type_of% (@thenQ_normal Un) := @thenQ_normal Un
end Go.Proofs.Ytlmhnhlmlhfigaa
