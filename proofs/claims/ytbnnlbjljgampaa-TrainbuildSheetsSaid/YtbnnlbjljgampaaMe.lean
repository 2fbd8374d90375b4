/- W1 -/
import Derived.Test.YtbnnlbjljgampaaProg
import Derived.Test.YtbnnlbjljgampaaMd
section
set_option linter.unusedVariables false
set_option linter.unusedSimpArgs false
set_option maxRecDepth 100000
set_option maxHeartbeats 1000000
namespace Go.W
open Go.AM Go.Proofs
noncomputable def Ty3 : Ty Int := TyOf 3 [.int .i64] fun x => (x, ())
noncomputable def Ty4 : Ty Bool := TyOf 4 [.bool] fun x => (x, ())
noncomputable def Ty5 : Ty UInt8 := TU8 5
noncomputable def Ty9 : Ty (List UInt8) := TyOf 9 [.str] fun x => (x, ())
noncomputable def Ty22 : Ty (List Int) := TyOf 22 [.sl Int Ty3] fun x => (x, ())
noncomputable def Ty70 : Ty Track := TyOf 70 [.str, .int .i64] fun x => (x.name, x.length, ())
noncomputable def Ty25 : Ty (List Track) := TyOf 25 [.sl Track Ty70] fun x => (x, ())
noncomputable def Ty75 : Ty Rule := TyOf 75 [.int .i64, .int .i64, .int .i64, .int .i64, .int .i64] fun x => (x.number, x.kind, x.a, x.b, x.c, ())
noncomputable def Ty26 : Ty (List Rule) := TyOf 26 [.sl Rule Ty75] fun x => (x, ())
noncomputable def Ty72 : Ty BrakeRow := TyOf 72 [.int .i64, .int .i64, .int .i64] fun x => (x.speed, x.grade, x.percent, ())
noncomputable def Ty27 : Ty (List BrakeRow) := TyOf 27 [.sl BrakeRow Ty72] fun x => (x, ())
noncomputable def Ty29 : Ty YardConfig := TyOf 29 [.sl Track Ty70, .sl Rule Ty75, .sl BrakeRow Ty72, .int .i64, .int .i64] fun x => (x.tracks, x.rules, x.table, x.speed, x.grade, ())
noncomputable def Ty30 : Ty (List (List UInt8)) := TyOf 30 [.sl (List UInt8) Ty9] fun x => (x, ())
noncomputable def Ty32 : Ty TrainOrder := TyOf 32 [.str, .int .i64, .sl (List UInt8) Ty9] fun x => (x.name, x.track, x.dests, ())
noncomputable def Ty53 : Ty Wagon := TyOf 53 [.str, .int .i64, .int .i64, .int .i64, .int .i64, .int .i64, .bool, .str] fun x => (x.number, x.length, x.axles, x.mass, x.brake, x.goods, x.gentle, x.dest, ())
noncomputable def Ty33 : Ty (List Wagon) := TyOf 33 [.sl Wagon Ty53] fun x => (x, ())
noncomputable def Ty37 : Ty Brakes := TyOf 37 [.int .i64, .int .i64, .int .i64, .int .i64, .int .i64, .int .i64, .int .i64] fun x => (x.length, x.axles, x.mass, x.braked, x.percent, x.required, x.missing, ())
noncomputable def Ty51 : Ty SetOut := TyOf 51 [.int .i64, .int .i64, .int .i64] fun x => (x.stop, x.wagons, x.groups, ())
noncomputable def Ty38 : Ty (List SetOut) := TyOf 38 [.sl SetOut Ty51] fun x => (x, ())
noncomputable def Ty40 : Ty Final := TyOf 40 [.str, .sl Wagon Ty53, .int .i64, .int .i64, .int .i64, .int .i64, .int .i64, .int .i64, .int .i64, .sl SetOut Ty51] fun x => (x.name, x.wagons, x.brakes.length, x.brakes.axles, x.brakes.mass, x.brakes.braked, x.brakes.percent, x.brakes.required, x.brakes.missing, x.setOuts, ())
noncomputable def Ty60 : Ty Maker := TyOf 60 [.sl Int Ty3, .int .i64] fun x => (x.l, x.n, ())
noncomputable def Ty91 : Ty Train := TyOf 91 [.sl Wagon Ty53, .sl Int Ty3, .int .i64, .int .i64, .int .i64, .int .i64, .int .i64, .int .i64, .int .i64] fun x => (x.l, x.off, x.total.length, x.total.axles, x.total.mass, x.total.braked, x.total.percent, x.total.required, x.total.missing, ())
structure TE where
  α : Type
  T : Ty α
  kc : α → List Value
noncomputable def tabL : Nat → TE
  | 3 => ⟨Int, Ty3, kInt .i64⟩
  | 4 => ⟨Bool, Ty4, kBool⟩
  | 5 => ⟨UInt8, Ty5, fun _ => []⟩
  | 9 => ⟨(List UInt8), Ty9, kStr⟩
  | 22 => ⟨(List Int), Ty22, fun _ => []⟩
  | 70 => ⟨Track, Ty70, fun _ => []⟩
  | 25 => ⟨(List Track), Ty25, fun _ => []⟩
  | 75 => ⟨Rule, Ty75, fun _ => []⟩
  | 26 => ⟨(List Rule), Ty26, fun _ => []⟩
  | 72 => ⟨BrakeRow, Ty72, fun _ => []⟩
  | 27 => ⟨(List BrakeRow), Ty27, fun _ => []⟩
  | 29 => ⟨YardConfig, Ty29, fun _ => []⟩
  | 30 => ⟨(List (List UInt8)), Ty30, fun _ => []⟩
  | 32 => ⟨TrainOrder, Ty32, fun _ => []⟩
  | 53 => ⟨Wagon, Ty53, fun _ => []⟩
  | 33 => ⟨(List Wagon), Ty33, fun _ => []⟩
  | 37 => ⟨Brakes, Ty37, fun _ => []⟩
  | 51 => ⟨SetOut, Ty51, fun _ => []⟩
  | 38 => ⟨(List SetOut), Ty38, fun _ => []⟩
  | 40 => ⟨Final, Ty40, fun _ => []⟩
  | 60 => ⟨Maker, Ty60, fun _ => []⟩
  | 91 => ⟨Train, Ty91, fun _ => []⟩
  | _ => ⟨Bool, TBool 4, kBool⟩
noncomputable def D (t : Nat) : Type := (tabL t).α
noncomputable def G : Tab D := ⟨fun t => (tabL t).T, fun t => (tabL t).kc⟩
noncomputable def ti3 : TI Try.prog G 3 := tiOf [.int .i64] (fun (x : Int) => (x, ())) (fun y => (y.1 : Int)) (fun _ => rfl) (fun _ => rfl) (0 : Int) Try.t3 (.int .i64 0) rfl Try.type3 rfl rfl rfl rfl rfl rfl (fun z => ⟨rfl, trivial⟩) rfl
noncomputable def ti4 : TI Try.prog G 4 := tiOf [.bool] (fun (x : Bool) => (x, ())) (fun y => (y.1 : Bool)) (fun _ => rfl) (fun _ => rfl) (false : Bool) Try.t4 (.bool false) rfl Try.type4 rfl rfl rfl rfl rfl rfl (fun z => ⟨rfl, trivial⟩) rfl
noncomputable def ti5 : TI Try.prog G 5 := tiU8 (fun (x : UInt8) => x) (fun x => x) (fun x => x) (fun o => by cases o <;> rfl) (fun _ => rfl) (fun _ => rfl) Try.t5 rfl rfl (fun _ _ _ => Iff.rfl) Try.type5 rfl rfl rfl
noncomputable def ti9 : TI Try.prog G 9 := tiOf [.str] (fun (x : (List UInt8)) => (x, ())) (fun y => (y.1 : (List UInt8))) (fun _ => rfl) (fun _ => rfl) ([] : (List UInt8)) Try.t9 (.string ⟨#[]⟩) rfl Try.type9 rfl rfl rfl rfl rfl rfl (fun z => ⟨rfl, trivial⟩) rfl
noncomputable def ti22 : TI Try.prog G 22 := tiOf [.sl 3] (fun (x : (List Int)) => (x, ())) (fun y => (y.1 : (List Int))) (fun _ => rfl) (fun _ => rfl) ([] : (List Int)) Try.t22 (.slice none 0 0) rfl Try.type22 rfl rfl rfl rfl rfl rfl (fun z => ⟨.inl ⟨rfl, rfl⟩, trivial⟩) rfl
noncomputable def ti70 : TI Try.prog G 70 := tiOf [.str, .int .i64] (fun (x : Track) => (x.name, x.length, ())) (fun y => ((Track.mk y.1 y.2.1) : Track)) (fun _ => rfl) (fun _ => rfl) ((Track.mk [] 0) : Track) Try.t70 (.agg #[.string ⟨#[]⟩, .int .i64 0]) rfl Try.type70 rfl rfl rfl rfl rfl rfl (fun z => ⟨rfl, rfl, trivial⟩) rfl
noncomputable def ti25 : TI Try.prog G 25 := tiOf [.sl 70] (fun (x : (List Track)) => (x, ())) (fun y => (y.1 : (List Track))) (fun _ => rfl) (fun _ => rfl) ([] : (List Track)) Try.t25 (.slice none 0 0) rfl Try.type25 rfl rfl rfl rfl rfl rfl (fun z => ⟨.inl ⟨rfl, rfl⟩, trivial⟩) rfl
noncomputable def ti75 : TI Try.prog G 75 := tiOf [.int .i64, .int .i64, .int .i64, .int .i64, .int .i64] (fun (x : Rule) => (x.number, x.kind, x.a, x.b, x.c, ())) (fun y => ((Rule.mk y.1 y.2.1 y.2.2.1 y.2.2.2.1 y.2.2.2.2.1) : Rule)) (fun _ => rfl) (fun _ => rfl) ((Rule.mk 0 0 0 0 0) : Rule) Try.t75 (.agg #[.int .i64 0, .int .i64 0, .int .i64 0, .int .i64 0, .int .i64 0]) rfl Try.type75 rfl rfl rfl rfl rfl rfl (fun z => ⟨rfl, rfl, rfl, rfl, rfl, trivial⟩) rfl
noncomputable def ti26 : TI Try.prog G 26 := tiOf [.sl 75] (fun (x : (List Rule)) => (x, ())) (fun y => (y.1 : (List Rule))) (fun _ => rfl) (fun _ => rfl) ([] : (List Rule)) Try.t26 (.slice none 0 0) rfl Try.type26 rfl rfl rfl rfl rfl rfl (fun z => ⟨.inl ⟨rfl, rfl⟩, trivial⟩) rfl
noncomputable def ti72 : TI Try.prog G 72 := tiOf [.int .i64, .int .i64, .int .i64] (fun (x : BrakeRow) => (x.speed, x.grade, x.percent, ())) (fun y => ((BrakeRow.mk y.1 y.2.1 y.2.2.1) : BrakeRow)) (fun _ => rfl) (fun _ => rfl) ((BrakeRow.mk 0 0 0) : BrakeRow) Try.t72 (.agg #[.int .i64 0, .int .i64 0, .int .i64 0]) rfl Try.type72 rfl rfl rfl rfl rfl rfl (fun z => ⟨rfl, rfl, rfl, trivial⟩) rfl
noncomputable def ti27 : TI Try.prog G 27 := tiOf [.sl 72] (fun (x : (List BrakeRow)) => (x, ())) (fun y => (y.1 : (List BrakeRow))) (fun _ => rfl) (fun _ => rfl) ([] : (List BrakeRow)) Try.t27 (.slice none 0 0) rfl Try.type27 rfl rfl rfl rfl rfl rfl (fun z => ⟨.inl ⟨rfl, rfl⟩, trivial⟩) rfl
noncomputable def ti29 : TI Try.prog G 29 := tiOf [.sl 70, .sl 75, .sl 72, .int .i64, .int .i64] (fun (x : YardConfig) => (x.tracks, x.rules, x.table, x.speed, x.grade, ())) (fun y => ((YardConfig.mk y.1 y.2.1 y.2.2.1 y.2.2.2.1 y.2.2.2.2.1) : YardConfig)) (fun _ => rfl) (fun _ => rfl) ((YardConfig.mk [] [] [] 0 0) : YardConfig) Try.t29 (.agg #[.slice none 0 0, .slice none 0 0, .slice none 0 0, .int .i64 0, .int .i64 0]) rfl Try.type29 rfl rfl rfl rfl rfl rfl (fun z => ⟨.inl ⟨rfl, rfl⟩, .inl ⟨rfl, rfl⟩, .inl ⟨rfl, rfl⟩, rfl, rfl, trivial⟩) rfl
noncomputable def ti30 : TI Try.prog G 30 := tiOf [.sl 9] (fun (x : (List (List UInt8))) => (x, ())) (fun y => (y.1 : (List (List UInt8)))) (fun _ => rfl) (fun _ => rfl) ([] : (List (List UInt8))) Try.t30 (.slice none 0 0) rfl Try.type30 rfl rfl rfl rfl rfl rfl (fun z => ⟨.inl ⟨rfl, rfl⟩, trivial⟩) rfl
noncomputable def ti32 : TI Try.prog G 32 := tiOf [.str, .int .i64, .sl 9] (fun (x : TrainOrder) => (x.name, x.track, x.dests, ())) (fun y => ((TrainOrder.mk y.1 y.2.1 y.2.2.1) : TrainOrder)) (fun _ => rfl) (fun _ => rfl) ((TrainOrder.mk [] 0 []) : TrainOrder) Try.t32 (.agg #[.string ⟨#[]⟩, .int .i64 0, .slice none 0 0]) rfl Try.type32 rfl rfl rfl rfl rfl rfl (fun z => ⟨rfl, rfl, .inl ⟨rfl, rfl⟩, trivial⟩) rfl
noncomputable def ti53 : TI Try.prog G 53 := tiOf [.str, .int .i64, .int .i64, .int .i64, .int .i64, .int .i64, .bool, .str] (fun (x : Wagon) => (x.number, x.length, x.axles, x.mass, x.brake, x.goods, x.gentle, x.dest, ())) (fun y => ((Wagon.mk y.1 y.2.1 y.2.2.1 y.2.2.2.1 y.2.2.2.2.1 y.2.2.2.2.2.1 y.2.2.2.2.2.2.1 y.2.2.2.2.2.2.2.1) : Wagon)) (fun _ => rfl) (fun _ => rfl) ((Wagon.mk [] 0 0 0 0 0 false []) : Wagon) Try.t53 (.agg #[.string ⟨#[]⟩, .int .i64 0, .int .i64 0, .int .i64 0, .int .i64 0, .int .i64 0, .bool false, .string ⟨#[]⟩]) rfl Try.type53 rfl rfl rfl rfl rfl rfl (fun z => ⟨rfl, rfl, rfl, rfl, rfl, rfl, rfl, rfl, trivial⟩) rfl
noncomputable def ti33 : TI Try.prog G 33 := tiOf [.sl 53] (fun (x : (List Wagon)) => (x, ())) (fun y => (y.1 : (List Wagon))) (fun _ => rfl) (fun _ => rfl) ([] : (List Wagon)) Try.t33 (.slice none 0 0) rfl Try.type33 rfl rfl rfl rfl rfl rfl (fun z => ⟨.inl ⟨rfl, rfl⟩, trivial⟩) rfl
noncomputable def ti37 : TI Try.prog G 37 := tiOf [.int .i64, .int .i64, .int .i64, .int .i64, .int .i64, .int .i64, .int .i64] (fun (x : Brakes) => (x.length, x.axles, x.mass, x.braked, x.percent, x.required, x.missing, ())) (fun y => ((Brakes.mk y.1 y.2.1 y.2.2.1 y.2.2.2.1 y.2.2.2.2.1 y.2.2.2.2.2.1 y.2.2.2.2.2.2.1) : Brakes)) (fun _ => rfl) (fun _ => rfl) ((Brakes.mk 0 0 0 0 0 0 0) : Brakes) Try.t37 (.agg #[.int .i64 0, .int .i64 0, .int .i64 0, .int .i64 0, .int .i64 0, .int .i64 0, .int .i64 0]) rfl Try.type37 rfl rfl rfl rfl rfl rfl (fun z => ⟨rfl, rfl, rfl, rfl, rfl, rfl, rfl, trivial⟩) rfl
noncomputable def ti51 : TI Try.prog G 51 := tiOf [.int .i64, .int .i64, .int .i64] (fun (x : SetOut) => (x.stop, x.wagons, x.groups, ())) (fun y => ((SetOut.mk y.1 y.2.1 y.2.2.1) : SetOut)) (fun _ => rfl) (fun _ => rfl) ((SetOut.mk 0 0 0) : SetOut) Try.t51 (.agg #[.int .i64 0, .int .i64 0, .int .i64 0]) rfl Try.type51 rfl rfl rfl rfl rfl rfl (fun z => ⟨rfl, rfl, rfl, trivial⟩) rfl
noncomputable def ti38 : TI Try.prog G 38 := tiOf [.sl 51] (fun (x : (List SetOut)) => (x, ())) (fun y => (y.1 : (List SetOut))) (fun _ => rfl) (fun _ => rfl) ([] : (List SetOut)) Try.t38 (.slice none 0 0) rfl Try.type38 rfl rfl rfl rfl rfl rfl (fun z => ⟨.inl ⟨rfl, rfl⟩, trivial⟩) rfl
noncomputable def ti40 : TI Try.prog G 40 := tiOf [.str, .sl 53, .int .i64, .int .i64, .int .i64, .int .i64, .int .i64, .int .i64, .int .i64, .sl 51] (fun (x : Final) => (x.name, x.wagons, x.brakes.length, x.brakes.axles, x.brakes.mass, x.brakes.braked, x.brakes.percent, x.brakes.required, x.brakes.missing, x.setOuts, ())) (fun y => ((Final.mk y.1 y.2.1 (Brakes.mk y.2.2.1 y.2.2.2.1 y.2.2.2.2.1 y.2.2.2.2.2.1 y.2.2.2.2.2.2.1 y.2.2.2.2.2.2.2.1 y.2.2.2.2.2.2.2.2.1) y.2.2.2.2.2.2.2.2.2.1) : Final)) (fun _ => rfl) (fun _ => rfl) ((Final.mk [] [] (Brakes.mk 0 0 0 0 0 0 0) []) : Final) Try.t40 (.agg #[.string ⟨#[]⟩, .slice none 0 0, .int .i64 0, .int .i64 0, .int .i64 0, .int .i64 0, .int .i64 0, .int .i64 0, .int .i64 0, .slice none 0 0]) rfl Try.type40 rfl rfl rfl rfl rfl rfl (fun z => ⟨rfl, .inl ⟨rfl, rfl⟩, rfl, rfl, rfl, rfl, rfl, rfl, rfl, .inl ⟨rfl, rfl⟩, trivial⟩) rfl
noncomputable def ti60 : TI Try.prog G 60 := tiOf [.sl 3, .int .i64] (fun (x : Maker) => (x.l, x.n, ())) (fun y => ((Maker.mk y.1 y.2.1) : Maker)) (fun _ => rfl) (fun _ => rfl) ((Maker.mk [] 0) : Maker) Try.t60 (.agg #[.slice none 0 0, .int .i64 0]) rfl Try.type60 rfl rfl rfl rfl rfl rfl (fun z => ⟨.inl ⟨rfl, rfl⟩, rfl, trivial⟩) rfl
noncomputable def ti91 : TI Try.prog G 91 := tiOf [.sl 53, .sl 3, .int .i64, .int .i64, .int .i64, .int .i64, .int .i64, .int .i64, .int .i64] (fun (x : Train) => (x.l, x.off, x.total.length, x.total.axles, x.total.mass, x.total.braked, x.total.percent, x.total.required, x.total.missing, ())) (fun y => ((Train.mk y.1 y.2.1 (Brakes.mk y.2.2.1 y.2.2.2.1 y.2.2.2.2.1 y.2.2.2.2.2.1 y.2.2.2.2.2.2.1 y.2.2.2.2.2.2.2.1 y.2.2.2.2.2.2.2.2.1)) : Train)) (fun _ => rfl) (fun _ => rfl) ((Train.mk [] [] (Brakes.mk 0 0 0 0 0 0 0)) : Train) Try.t91 (.agg #[.slice none 0 0, .slice none 0 0, .int .i64 0, .int .i64 0, .int .i64 0, .int .i64 0, .int .i64 0, .int .i64 0, .int .i64 0]) rfl Try.type91 rfl rfl rfl rfl rfl rfl (fun z => ⟨.inl ⟨rfl, rfl⟩, .inl ⟨rfl, rfl⟩, rfl, rfl, rfl, rfl, rfl, rfl, rfl, trivial⟩) rfl
noncomputable def qi37 : QI Try.prog G 37 := qiOf [.int .i64, .int .i64, .int .i64, .int .i64, .int .i64, .int .i64, .int .i64] (fun (x : Brakes) => (x.length, x.axles, x.mass, x.braked, x.percent, x.required, x.missing, ())) (fun y => ((Brakes.mk y.1 y.2.1 y.2.2.1 y.2.2.2.1 y.2.2.2.2.1 y.2.2.2.2.2.1 y.2.2.2.2.2.2.1) : Brakes)) (fun _ => rfl) _ (fun (x y : Brakes) => decide (x = y)) rfl (fun (x y : Brakes) => decide_eq_true_iff) Try.underlying37 (by kernel_rfl) (by kernel_rfl) (by kernel_rfl)
noncomputable def qi51 : QI Try.prog G 51 := qiOf [.int .i64, .int .i64, .int .i64] (fun (x : SetOut) => (x.stop, x.wagons, x.groups, ())) (fun y => ((SetOut.mk y.1 y.2.1 y.2.2.1) : SetOut)) (fun _ => rfl) _ (fun (x y : SetOut) => decide (x = y)) rfl (fun (x y : SetOut) => decide_eq_true_iff) Try.underlying51 (by kernel_rfl) (by kernel_rfl) (by kernel_rfl)
noncomputable def qi53 : QI Try.prog G 53 := qiOf [.str, .int .i64, .int .i64, .int .i64, .int .i64, .int .i64, .bool, .str] (fun (x : Wagon) => (x.number, x.length, x.axles, x.mass, x.brake, x.goods, x.gentle, x.dest, ())) (fun y => ((Wagon.mk y.1 y.2.1 y.2.2.1 y.2.2.2.1 y.2.2.2.2.1 y.2.2.2.2.2.1 y.2.2.2.2.2.2.1 y.2.2.2.2.2.2.2.1) : Wagon)) (fun _ => rfl) _ (fun (x y : Wagon) => decide (x = y)) rfl (fun (x y : Wagon) => decide_eq_true_iff) Try.underlying53 (by kernel_rfl) (by kernel_rfl) (by kernel_rfl)
noncomputable def bi5 : BI Try.prog G 5 := ⟨fun xs => xs, fun xs => xs, fun _ _ _ h => h, fun _ _ _ _ _ _ h => h, fun _ _ _ _ _ _ h => h, Try.t5, Try.underlying5, Try.type5, rfl⟩
noncomputable def ki9 : KI Try.prog G 9 := kiS (fun n => n) (inferInstance : DecidableEq (List UInt8)) Try.underlying9 (keyStr Try.underlying9 Try.type9 rfl) (fun _ => rfl)
noncomputable def vi4 : VI Try.prog G 4 := viB (fun n => n) (fun n => n) (fun _ => rfl) Try.t4 Try.underlying4 Try.type4 (valBool Try.underlying4 Try.type4 rfl) (fun _ => rfl) rfl
noncomputable def X0 : Ev Try.prog D where
  G := G
  I := fun t => match t with | 3 => some ti3 | 4 => some ti4 | 5 => some ti5 | 9 => some ti9 | 22 => some ti22 | 70 => some ti70 | 25 => some ti25 | 75 => some ti75 | 26 => some ti26 | 72 => some ti72 | 27 => some ti27 | 29 => some ti29 | 30 => some ti30 | 32 => some ti32 | 53 => some ti53 | 33 => some ti33 | 37 => some ti37 | 51 => some ti51 | 38 => some ti38 | 40 => some ti40 | 60 => some ti60 | 91 => some ti91 | _ => none
  A := fun _ => none
  J := fun k v => match k, v with | 9, 4 => some (miOf ki9 vi4) | _, _ => none
  B := fun t => match t with | 5 => some bi5 | _ => none
  Q := fun t => match t with | 37 => some qi37 | 51 => some qi51 | 53 => some qi53 | _ => none
  F := fun _ _ _ => false
  C := fun _ _ _ _ _ => none
noncomputable def fs0 (N : Nat) : List (FE D) := []
theorem all0 (N : Nat) : ∀ y ∈ fs0 N, CallOk X0 y.d y.F := fun y h => absurd h (by simp [fs0])
noncomputable def X00 (N : Nat) : Ev Try.prog D := X0.with (fs0 N)
theorem cok0 (N : Nat) : COk (X00 N) := COk.of (all0 N)
/-! ### humpyard/humpgen.New -/
noncomputable def u0_gen_New (N : Nat) : List (Pc D) := []
theorem oku0_gen_New (N : Nat) : ∀ u ∈ u0_gen_New N, PcOk (X00 N) (bodyOf Try.f6) u := pc_nil
noncomputable def dgen_New : FD D := { f := 6, np := 1, ins := [.v 0 (.sl 3)], fx := [], rcv := none, rk := 0, outs := [.o 2 (.box 60)], ofx := [(2, .box 0 0)], rvs := [.tmp 2], flat := false }
noncomputable def Fgen_New (N : Nat) : dgen_New.F := fun r x => gen_New N x.1
theorem ogen_New (N : Nat) : FOk Try.prog (X00 N) dgen_New (Fgen_New N) := ⟨⟨Try.f6, _, Try.func6, rfl, by kernel_rfl, by kernel_rfl, rfl, FC.of (cok0 N) (us := u0_gen_New N) (fun u h _ => oku0_gen_New N u h) (fun r x => by kernel_rfl)⟩, by kernel_rfl, by kernel_rfl, by kernel_rfl, by kernel_rfl⟩
noncomputable def fs1 (N : Nat) : List (FE D) := ⟨dgen_New, Fgen_New N⟩ :: fs0 N
theorem all1 (N : Nat) : ∀ y ∈ fs1 N, CallOk X0 y.d y.F := all_cons (x := ⟨dgen_New, Fgen_New N⟩) (ogen_New N) (all0 N)
noncomputable def X1 (N : Nat) : Ev Try.prog D := X0.with (fs1 N)
theorem cok1 (N : Nat) : COk (X1 N) := COk.of (all1 N)
/-! ### (*humpyard/humpgen.Maker).Next -/
noncomputable def u0_Maker_Next (N : Nat) : List (Pc D) := []
theorem oku0_Maker_Next (N : Nat) : ∀ u ∈ u0_Maker_Next N, PcOk (X1 N) (bodyOf Try.f16) u := pc_nil
noncomputable def PMaker_Next_0 : PD D := { path := [1, 1, 0, 1], ins := [.o 0 (.recv 60), .v 5 (.int .i64), .v 11 .bool], fx := [(0, .box 0 0)], ks := [1], exs := [⟨.normal, [.v 5 (.int .i64)], []⟩], keep := [0, 1] }
noncomputable def FMaker_Next_0 (N : Nat) : PMaker_Next_0.F := fun x => Maker_Next_0 N x.1 x.2.1 x.2.2.1
theorem cMaker_Next_0 (N : Nat) : CC (X1 N) (bodyOf Try.f16) PMaker_Next_0 (FMaker_Next_0 N) := CC.of (cok1 N) (us := u0_Maker_Next N) (fun u h _ => oku0_Maker_Next N u h) (fun x => by kernel_rfl)
noncomputable def uMaker_Next_0 (N : Nat) : List (Pc D) := PMaker_Next_0.pc (X1 N) (FMaker_Next_0 N) :: u0_Maker_Next N
theorem okuMaker_Next_0 (N : Nat) : ∀ u ∈ uMaker_Next_0 N, PcOk (X1 N) (bodyOf Try.f16) u := pc_cons ((cMaker_Next_0 N).pc (by kernel_rfl)) (oku0_Maker_Next N)
noncomputable def PMaker_Next_1 : PD D := { path := [1, 1, 1, 1, 1, 0, 1], ins := [.o 0 (.recv 60), .v 1 (.int .i64), .v 5 (.int .i64), .v 51 .bool], fx := [(0, .box 0 0)], ks := [1], exs := [⟨.normal, [.v 5 (.int .i64)], []⟩], keep := [0] }
noncomputable def FMaker_Next_1 (N : Nat) : PMaker_Next_1.F := fun x => Maker_Next_1 N x.2.1 x.2.2.1 x.2.2.2.1
theorem cMaker_Next_1 (N : Nat) : CC (X1 N) (bodyOf Try.f16) PMaker_Next_1 (FMaker_Next_1 N) := CC.of (cok1 N) (us := uMaker_Next_0 N) (fun u h _ => okuMaker_Next_0 N u h) (fun x => by kernel_rfl)
noncomputable def uMaker_Next_1 (N : Nat) : List (Pc D) := PMaker_Next_1.pc (X1 N) (FMaker_Next_1 N) :: uMaker_Next_0 N
theorem okuMaker_Next_1 (N : Nat) : ∀ u ∈ uMaker_Next_1 N, PcOk (X1 N) (bodyOf Try.f16) u := pc_cons ((cMaker_Next_1 N).pc (by kernel_rfl)) (okuMaker_Next_0 N)
noncomputable def dMaker_Next : FD D := { f := 16, np := 2, ins := [.v 1 (.int .i64)], fx := [], rcv := some (0, 60), rk := 2, outs := [.v 4 (.int .i64), .u 0 (.recv 60)], ofx := [], rvs := [.tmp 4], flat := false }
noncomputable def FMaker_Next (N : Nat) : dMaker_Next.F := fun r x => Maker_Next N r x.1
theorem oMaker_Next (N : Nat) : FOk Try.prog (X1 N) dMaker_Next (FMaker_Next N) := ⟨⟨Try.f16, _, Try.func16, rfl, by kernel_rfl, by kernel_rfl, rfl, FC.of (cok1 N) (us := uMaker_Next_1 N) (fun u h _ => okuMaker_Next_1 N u h) (fun r x => by kernel_rfl)⟩, by kernel_rfl, by kernel_rfl, by kernel_rfl, by kernel_rfl⟩
noncomputable def fs2 (N : Nat) : List (FE D) := ⟨dMaker_Next, FMaker_Next N⟩ :: fs1 N
theorem all2 (N : Nat) : ∀ y ∈ fs2 N, CallOk X0 y.d y.F := all_cons (x := ⟨dMaker_Next, FMaker_Next N⟩) (oMaker_Next N) (all1 N)
noncomputable def X2 (N : Nat) : Ev Try.prog D := X0.with (fs2 N)
theorem cok2 (N : Nat) : COk (X2 N) := COk.of (all2 N)
/-! ### (*humpyard/humpgen.Maker).Pick -/
noncomputable def u0_Maker_Pick (N : Nat) : List (Pc D) := []
theorem oku0_Maker_Pick (N : Nat) : ∀ u ∈ u0_Maker_Pick N, PcOk (X2 N) (bodyOf Try.f18) u := pc_nil
noncomputable def dMaker_Pick : FD D := { f := 18, np := 2, ins := [.v 1 (.sl 3)], fx := [], rcv := some (0, 60), rk := 2, outs := [.v 4 (.int .i64), .u 0 (.recv 60)], ofx := [], rvs := [.tmp 4], flat := false }
noncomputable def FMaker_Pick (N : Nat) : dMaker_Pick.F := fun r x => Maker_Pick N r x.1
theorem oMaker_Pick (N : Nat) : FOk Try.prog (X2 N) dMaker_Pick (FMaker_Pick N) := ⟨⟨Try.f18, _, Try.func18, rfl, by kernel_rfl, by kernel_rfl, rfl, FC.of (cok2 N) (us := u0_Maker_Pick N) (fun u h _ => oku0_Maker_Pick N u h) (fun r x => by kernel_rfl)⟩, by kernel_rfl, by kernel_rfl, by kernel_rfl, by kernel_rfl⟩
noncomputable def fs3 (N : Nat) : List (FE D) := ⟨dMaker_Pick, FMaker_Pick N⟩ :: fs2 N
theorem all3 (N : Nat) : ∀ y ∈ fs3 N, CallOk X0 y.d y.F := all_cons (x := ⟨dMaker_Pick, FMaker_Pick N⟩) (oMaker_Pick N) (all2 N)
noncomputable def X3 (N : Nat) : Ev Try.prog D := X0.with (fs3 N)
theorem cok3 (N : Nat) : COk (X3 N) := COk.of (all3 N)
/-! ### humpyard/yardgen.name -/
noncomputable def u0_yardgen_name (N : Nat) : List (Pc D) := []
theorem oku0_yardgen_name (N : Nat) : ∀ u ∈ u0_yardgen_name N, PcOk (X3 N) (bodyOf Try.f32) u := pc_nil
noncomputable def dyardgen_name : FD D := { f := 32, np := 1, ins := [.v 0 (.int .i64)], fx := [], rcv := none, rk := 0, outs := [.v 2 .str], ofx := [], rvs := [.tmp 2], flat := true }
noncomputable def Fyardgen_name (N : Nat) : dyardgen_name.F := fun r x => yardgen_name N x.1
theorem oyardgen_name (N : Nat) : FOk Try.prog (X3 N) dyardgen_name (Fyardgen_name N) := ⟨⟨Try.f32, _, Try.func32, rfl, by kernel_rfl, by kernel_rfl, rfl, FC.of (cok3 N) (us := u0_yardgen_name N) (fun u h _ => oku0_yardgen_name N u h) (fun r x => by kernel_rfl)⟩, by kernel_rfl, by kernel_rfl, by kernel_rfl, by kernel_rfl⟩
noncomputable def fs4 (N : Nat) : List (FE D) := ⟨dyardgen_name, Fyardgen_name N⟩ :: fs3 N
theorem all4 (N : Nat) : ∀ y ∈ fs4 N, CallOk X0 y.d y.F := all_cons (x := ⟨dyardgen_name, Fyardgen_name N⟩) (oyardgen_name N) (all3 N)
noncomputable def X4 (N : Nat) : Ev Try.prog D := X0.with (fs4 N)
theorem cok4 (N : Nat) : COk (X4 N) := COk.of (all4 N)
/-! ### humpyard/yardgen.Table -/
noncomputable def u0_yardgen_Table (N : Nat) : List (Pc D) := []
theorem oku0_yardgen_Table (N : Nat) : ∀ u ∈ u0_yardgen_Table N, PcOk (X4 N) (bodyOf Try.f33) u := pc_nil
noncomputable def Pyardgen_Table_0 : PD D := { path := [1, 1, 0, 1, 0], ins := [.o 0 (.recv 60), .o 3 (.sl 72), .v 4 (.int .i64)], fx := [(0, .box 0 0), (3, .c (.own 1))], ks := [2, 0], exs := [⟨.exit 0, [.u 0 (.recv 60), .o 3 (.sl 72)], [(3, .c (.own 2))]⟩], keep := [0] }
noncomputable def Fyardgen_Table_0 (N n : Nat) : Pyardgen_Table_0.F := fun x => yardgen_Table_0 N n x.1 x.2.1 x.2.2.1
theorem cyardgen_Table_0 (N n : Nat) : CC (X4 N) (bodyOf Try.f33) Pyardgen_Table_0 (Fyardgen_Table_0 N n) := CC.loop (cok4 N) (us := u0_yardgen_Table N) (c := sub (bodyOf Try.f33) [1, 1, 0, 1, 0, 0]) (by kernel_rfl) (by kernel_rfl) (fun u h _ => oku0_yardgen_Table N u h) (fun x => rfl) (fun n x => by kernel_rfl) n
noncomputable def uyardgen_Table_0 (N : Nat) : List (Pc D) := Pyardgen_Table_0.pc (X4 N) (Fyardgen_Table_0 N N) :: u0_yardgen_Table N
theorem okuyardgen_Table_0 (N : Nat) : ∀ u ∈ uyardgen_Table_0 N, PcOk (X4 N) (bodyOf Try.f33) u := pc_cons ((cyardgen_Table_0 N N).pc (by kernel_rfl)) (oku0_yardgen_Table N)
noncomputable def dyardgen_Table : FD D := { f := 33, np := 1, ins := [], fx := [], rcv := some (0, 60), rk := 2, outs := [.o 2 (.sl 72), .u 0 (.recv 60)], ofx := [(2, .c (.own 1))], rvs := [.tmp 2], flat := false }
noncomputable def Fyardgen_Table (N : Nat) : dyardgen_Table.F := fun r x => yardgen_Table N r
theorem oyardgen_Table (N : Nat) : FOk Try.prog (X4 N) dyardgen_Table (Fyardgen_Table N) := ⟨⟨Try.f33, _, Try.func33, rfl, by kernel_rfl, by kernel_rfl, rfl, FC.of (cok4 N) (us := uyardgen_Table_0 N) (fun u h _ => okuyardgen_Table_0 N u h) (fun r x => by kernel_rfl)⟩, by kernel_rfl, by kernel_rfl, by kernel_rfl, by kernel_rfl⟩
noncomputable def fs5 (N : Nat) : List (FE D) := ⟨dyardgen_Table, Fyardgen_Table N⟩ :: fs4 N
theorem all5 (N : Nat) : ∀ y ∈ fs5 N, CallOk X0 y.d y.F := all_cons (x := ⟨dyardgen_Table, Fyardgen_Table N⟩) (oyardgen_Table N) (all4 N)
noncomputable def X5 (N : Nat) : Ev Try.prog D := X0.with (fs5 N)
theorem cok5 (N : Nat) : COk (X5 N) := COk.of (all5 N)
/-! ### humpyard/yardgen.Rule -/
noncomputable def u0_yardgen_Rule (N : Nat) : List (Pc D) := []
theorem oku0_yardgen_Rule (N : Nat) : ∀ u ∈ u0_yardgen_Rule N, PcOk (X5 N) (bodyOf Try.f53) u := pc_nil
noncomputable def Pyardgen_Rule_0 : PD D := { path := [1, 1, 0, 1], ins := [.o 0 (.recv 60), .o 4 (.box 75), .o 5 (.box 75), .v 12 (.int .i64)], fx := [(0, .box 0 0), (4, .box 1 0), (5, .box 2 0)], ks := [2, 1, 2], exs := [⟨.normal, [.u 0 (.recv 60), .u 2 (.box 75)], []⟩], keep := [0, 4, 5] }
noncomputable def Fyardgen_Rule_0 (N : Nat) : Pyardgen_Rule_0.F := fun x => yardgen_Rule_0 N x.1 x.2.2.1 x.2.2.2.1
theorem cyardgen_Rule_0 (N : Nat) : CC (X5 N) (bodyOf Try.f53) Pyardgen_Rule_0 (Fyardgen_Rule_0 N) := CC.of (cok5 N) (us := u0_yardgen_Rule N) (fun u h _ => oku0_yardgen_Rule N u h) (fun x => by kernel_rfl)
noncomputable def uyardgen_Rule_0 (N : Nat) : List (Pc D) := Pyardgen_Rule_0.pc (X5 N) (Fyardgen_Rule_0 N) :: u0_yardgen_Rule N
theorem okuyardgen_Rule_0 (N : Nat) : ∀ u ∈ uyardgen_Rule_0 N, PcOk (X5 N) (bodyOf Try.f53) u := pc_cons ((cyardgen_Rule_0 N).pc (by kernel_rfl)) (oku0_yardgen_Rule N)
noncomputable def dyardgen_Rule : FD D := { f := 53, np := 2, ins := [.v 1 (.int .i64)], fx := [], rcv := some (0, 60), rk := 2, outs := [.v 1000000 (.agg 75), .u 0 (.recv 60)], ofx := [], rvs := [.cell 4 75], flat := false }
noncomputable def Fyardgen_Rule (N : Nat) : dyardgen_Rule.F := fun r x => yardgen_Rule N r x.1
theorem oyardgen_Rule (N : Nat) : FOk Try.prog (X5 N) dyardgen_Rule (Fyardgen_Rule N) := ⟨⟨Try.f53, _, Try.func53, rfl, by kernel_rfl, by kernel_rfl, rfl, FC.of (cok5 N) (us := uyardgen_Rule_0 N) (fun u h _ => okuyardgen_Rule_0 N u h) (fun r x => by kernel_rfl)⟩, by kernel_rfl, by kernel_rfl, by kernel_rfl, by kernel_rfl⟩
noncomputable def fs6 (N : Nat) : List (FE D) := ⟨dyardgen_Rule, Fyardgen_Rule N⟩ :: fs5 N
theorem all6 (N : Nat) : ∀ y ∈ fs6 N, CallOk X0 y.d y.F := all_cons (x := ⟨dyardgen_Rule, Fyardgen_Rule N⟩) (oyardgen_Rule N) (all5 N)
noncomputable def X6 (N : Nat) : Ev Try.prog D := X0.with (fs6 N)
theorem cok6 (N : Nat) : COk (X6 N) := COk.of (all6 N)
/-! ### humpyard/yardgen.Rules -/
noncomputable def u0_yardgen_Rules (N : Nat) : List (Pc D) := []
theorem oku0_yardgen_Rules (N : Nat) : ∀ u ∈ u0_yardgen_Rules N, PcOk (X6 N) (bodyOf Try.f34) u := pc_nil
noncomputable def Pyardgen_Rules_0 : PD D := { path := [1, 1, 0, 1, 0], ins := [.o 0 (.recv 60), .o 5 (.sl 75), .v 6 (.int .i64)], fx := [(0, .box 0 0), (5, .c (.own 1))], ks := [2, 0], exs := [⟨.exit 0, [.u 0 (.recv 60), .o 5 (.sl 75)], [(5, .c (.own 2))]⟩], keep := [0] }
noncomputable def Fyardgen_Rules_0 (N n : Nat) : Pyardgen_Rules_0.F := fun x => yardgen_Rules_0 N n x.1 x.2.1 x.2.2.1
theorem cyardgen_Rules_0 (N n : Nat) : CC (X6 N) (bodyOf Try.f34) Pyardgen_Rules_0 (Fyardgen_Rules_0 N n) := CC.loop (cok6 N) (us := u0_yardgen_Rules N) (c := sub (bodyOf Try.f34) [1, 1, 0, 1, 0, 0]) (by kernel_rfl) (by kernel_rfl) (fun u h _ => oku0_yardgen_Rules N u h) (fun x => rfl) (fun n x => by kernel_rfl) n
noncomputable def uyardgen_Rules_0 (N : Nat) : List (Pc D) := Pyardgen_Rules_0.pc (X6 N) (Fyardgen_Rules_0 N N) :: u0_yardgen_Rules N
theorem okuyardgen_Rules_0 (N : Nat) : ∀ u ∈ uyardgen_Rules_0 N, PcOk (X6 N) (bodyOf Try.f34) u := pc_cons ((cyardgen_Rules_0 N N).pc (by kernel_rfl)) (oku0_yardgen_Rules N)
noncomputable def dyardgen_Rules : FD D := { f := 34, np := 2, ins := [.v 1 (.int .i64)], fx := [], rcv := some (0, 60), rk := 2, outs := [.o 4 (.sl 75), .u 0 (.recv 60)], ofx := [(4, .c (.own 1))], rvs := [.tmp 4], flat := false }
noncomputable def Fyardgen_Rules (N : Nat) : dyardgen_Rules.F := fun r x => yardgen_Rules N r x.1
theorem oyardgen_Rules (N : Nat) : FOk Try.prog (X6 N) dyardgen_Rules (Fyardgen_Rules N) := ⟨⟨Try.f34, _, Try.func34, rfl, by kernel_rfl, by kernel_rfl, rfl, FC.of (cok6 N) (us := uyardgen_Rules_0 N) (fun u h _ => okuyardgen_Rules_0 N u h) (fun r x => by kernel_rfl)⟩, by kernel_rfl, by kernel_rfl, by kernel_rfl, by kernel_rfl⟩
noncomputable def fs7 (N : Nat) : List (FE D) := ⟨dyardgen_Rules, Fyardgen_Rules N⟩ :: fs6 N
theorem all7 (N : Nat) : ∀ y ∈ fs7 N, CallOk X0 y.d y.F := all_cons (x := ⟨dyardgen_Rules, Fyardgen_Rules N⟩) (oyardgen_Rules N) (all6 N)
noncomputable def X7 (N : Nat) : Ev Try.prog D := X0.with (fs7 N)
theorem cok7 (N : Nat) : COk (X7 N) := COk.of (all7 N)
/-! ### humpyard/yardgen.Config -/
noncomputable def u0_yardgen_Config (N : Nat) : List (Pc D) := []
theorem oku0_yardgen_Config (N : Nat) : ∀ u ∈ u0_yardgen_Config N, PcOk (X7 N) (bodyOf Try.f15) u := pc_nil
noncomputable def Pyardgen_Config_0 : PD D := { path := [1, 1, 0, 1, 0], ins := [.o 0 (.recv 60), .o 4 (.box 29), .o 5 (.bx 29 [(0, 3), (2, 4)]), .v 6 (.int .i64), .o 2005000 (.sl 70), .o 2005002 (.sl 72)], fx := [(0, .box 0 0), (4, .box 1 0), (5, .box 2 0)], ks := [2, 1, 2, 0, 1], exs := [⟨.exit 0, [.u 0 (.recv 60), .u 2 (.bx 29 [(0, 5), (2, 4)]), .o 2005000 (.sl 70)], []⟩], keep := [0, 1, 4, 5] }
noncomputable def Fyardgen_Config_0 (N n : Nat) : Pyardgen_Config_0.F := fun x => yardgen_Config_0 N n x.1 x.2.2.1 x.2.2.2.1 x.2.2.2.2.1
theorem cyardgen_Config_0 (N n : Nat) : CC (X7 N) (bodyOf Try.f15) Pyardgen_Config_0 (Fyardgen_Config_0 N n) := CC.loop (cok7 N) (us := u0_yardgen_Config N) (c := sub (bodyOf Try.f15) [1, 1, 0, 1, 0, 0]) (by kernel_rfl) (by kernel_rfl) (fun u h _ => oku0_yardgen_Config N u h) (fun x => rfl) (fun n x => by kernel_rfl) n
noncomputable def uyardgen_Config_0 (N : Nat) : List (Pc D) := Pyardgen_Config_0.pc (X7 N) (Fyardgen_Config_0 N N) :: u0_yardgen_Config N
theorem okuyardgen_Config_0 (N : Nat) : ∀ u ∈ uyardgen_Config_0 N, PcOk (X7 N) (bodyOf Try.f15) u := pc_cons ((cyardgen_Config_0 N N).pc (by kernel_rfl)) (oku0_yardgen_Config N)
noncomputable def Pyardgen_Config_1 : PD D := { path := [1, 1, 1, 1, 0, 0], ins := [.o 0 (.recv 60), .v 1 .bool, .o 4 (.box 29), .o 5 (.bx 29 [(0, 3), (2, 4)]), .o 2005000 (.sl 70), .o 2005002 (.sl 72)], fx := [(0, .box 0 0), (4, .box 1 0), (5, .box 2 0)], ks := [2, 1, 1, 1, 1], exs := [⟨.normal, [.u 0 (.recv 60), .v 51 .bool], []⟩], keep := [0, 4, 5] }
noncomputable def Fyardgen_Config_1 (N : Nat) : Pyardgen_Config_1.F := fun x => yardgen_Config_1 N x.1 x.2.1
theorem cyardgen_Config_1 (N : Nat) : CC (X7 N) (bodyOf Try.f15) Pyardgen_Config_1 (Fyardgen_Config_1 N) := CC.of (cok7 N) (us := uyardgen_Config_0 N) (fun u h _ => okuyardgen_Config_0 N u h) (fun x => by kernel_rfl)
noncomputable def uyardgen_Config_1 (N : Nat) : List (Pc D) := Pyardgen_Config_1.pc (X7 N) (Fyardgen_Config_1 N) :: uyardgen_Config_0 N
theorem okuyardgen_Config_1 (N : Nat) : ∀ u ∈ uyardgen_Config_1 N, PcOk (X7 N) (bodyOf Try.f15) u := pc_cons ((cyardgen_Config_1 N).pc (by kernel_rfl)) (okuyardgen_Config_0 N)
noncomputable def Pyardgen_Config_2 : PD D := { path := [1, 1, 1, 1, 0, 1], ins := [.o 0 (.recv 60), .o 4 (.box 29), .o 5 (.bx 29 [(0, 3), (2, 4)]), .v 51 .bool, .o 2005000 (.sl 70), .o 2005002 (.sl 72)], fx := [(0, .box 0 0), (4, .box 1 0), (5, .box 2 0)], ks := [2, 1, 2, 0, 0], exs := [⟨.normal, [.u 0 (.recv 60), .u 2 (.bx 29 [(0, 5), (2, 6)]), .o 2005000 (.sl 70), .o 2005002 (.sl 72)], []⟩], keep := [0, 4, 5] }
noncomputable def Fyardgen_Config_2 (N : Nat) : Pyardgen_Config_2.F := fun x => yardgen_Config_2 N x.1 x.2.2.1 x.2.2.2.1 x.2.2.2.2.1 x.2.2.2.2.2.1
theorem cyardgen_Config_2 (N : Nat) : CC (X7 N) (bodyOf Try.f15) Pyardgen_Config_2 (Fyardgen_Config_2 N) := CC.of (cok7 N) (us := uyardgen_Config_1 N) (fun u h _ => okuyardgen_Config_1 N u h) (fun x => by kernel_rfl)
noncomputable def uyardgen_Config_2 (N : Nat) : List (Pc D) := Pyardgen_Config_2.pc (X7 N) (Fyardgen_Config_2 N) :: uyardgen_Config_1 N
theorem okuyardgen_Config_2 (N : Nat) : ∀ u ∈ uyardgen_Config_2 N, PcOk (X7 N) (bodyOf Try.f15) u := pc_cons ((cyardgen_Config_2 N).pc (by kernel_rfl)) (okuyardgen_Config_1 N)
noncomputable def dyardgen_Config : FD D := { f := 15, np := 2, ins := [.v 1 .bool], fx := [], rcv := some (0, 60), rk := 2, outs := [.v 1000000 (.agg 29), .u 0 (.recv 60)], ofx := [], rvs := [.cell 4 29], flat := false }
noncomputable def Fyardgen_Config (N : Nat) : dyardgen_Config.F := fun r x => yardgen_Config N r x.1
theorem oyardgen_Config (N : Nat) : FOk Try.prog (X7 N) dyardgen_Config (Fyardgen_Config N) := ⟨⟨Try.f15, _, Try.func15, rfl, by kernel_rfl, by kernel_rfl, rfl, FC.of (cok7 N) (us := uyardgen_Config_2 N) (fun u h _ => okuyardgen_Config_2 N u h) (fun r x => by kernel_rfl)⟩, by kernel_rfl, by kernel_rfl, by kernel_rfl, by kernel_rfl⟩
noncomputable def fs8 (N : Nat) : List (FE D) := ⟨dyardgen_Config, Fyardgen_Config N⟩ :: fs7 N
theorem all8 (N : Nat) : ∀ y ∈ fs8 N, CallOk X0 y.d y.F := all_cons (x := ⟨dyardgen_Config, Fyardgen_Config N⟩) (oyardgen_Config N) (all7 N)
noncomputable def X8 (N : Nat) : Ev Try.prog D := X0.with (fs8 N)
theorem cok8 (N : Nat) : COk (X8 N) := COk.of (all8 N)
/-! ### (*humpyard/humpgen.Maker).Digits -/
noncomputable def u0_Maker_Digits (N : Nat) : List (Pc D) := []
theorem oku0_Maker_Digits (N : Nat) : ∀ u ∈ u0_Maker_Digits N, PcOk (X8 N) (bodyOf Try.f83) u := pc_nil
noncomputable def PMaker_Digits_0 : PD D := { path := [1, 1, 0, 1, 0], ins := [.o 0 (.recv 60), .v 1 (.int .i64), .o 5 (.sl 5), .v 6 (.int .i64)], fx := [(0, .box 0 0), (5, .c (.own 1))], ks := [2, 2], exs := [⟨.exit 0, [.u 0 (.recv 60), .u 1 (.sl 5)], []⟩], keep := [0, 5] }
noncomputable def FMaker_Digits_0 (N n : Nat) : PMaker_Digits_0.F := fun x => Maker_Digits_0 N x.2.1 n x.1 x.2.2.1 x.2.2.2.1
theorem cMaker_Digits_0 (N n : Nat) : CC (X8 N) (bodyOf Try.f83) PMaker_Digits_0 (FMaker_Digits_0 N n) := CC.loop (cok8 N) (us := u0_Maker_Digits N) (c := sub (bodyOf Try.f83) [1, 1, 0, 1, 0, 0]) (by kernel_rfl) (by kernel_rfl) (fun u h _ => oku0_Maker_Digits N u h) (fun x => rfl) (fun n x => by kernel_rfl) n
noncomputable def uMaker_Digits_0 (N : Nat) : List (Pc D) := PMaker_Digits_0.pc (X8 N) (FMaker_Digits_0 N N) :: u0_Maker_Digits N
theorem okuMaker_Digits_0 (N : Nat) : ∀ u ∈ uMaker_Digits_0 N, PcOk (X8 N) (bodyOf Try.f83) u := pc_cons ((cMaker_Digits_0 N N).pc (by kernel_rfl)) (oku0_Maker_Digits N)
noncomputable def dMaker_Digits : FD D := { f := 83, np := 2, ins := [.v 1 (.int .i64)], fx := [], rcv := some (0, 60), rk := 2, outs := [.v 4 .str, .u 0 (.recv 60)], ofx := [], rvs := [.tmp 4], flat := false }
noncomputable def FMaker_Digits (N : Nat) : dMaker_Digits.F := fun r x => Maker_Digits N r x.1
theorem oMaker_Digits (N : Nat) : FOk Try.prog (X8 N) dMaker_Digits (FMaker_Digits N) := ⟨⟨Try.f83, _, Try.func83, rfl, by kernel_rfl, by kernel_rfl, rfl, FC.of (cok8 N) (us := uMaker_Digits_0 N) (fun u h _ => okuMaker_Digits_0 N u h) (fun r x => by kernel_rfl)⟩, by kernel_rfl, by kernel_rfl, by kernel_rfl, by kernel_rfl⟩
noncomputable def fs9 (N : Nat) : List (FE D) := ⟨dMaker_Digits, FMaker_Digits N⟩ :: fs8 N
theorem all9 (N : Nat) : ∀ y ∈ fs9 N, CallOk X0 y.d y.F := all_cons (x := ⟨dMaker_Digits, FMaker_Digits N⟩) (oMaker_Digits N) (all8 N)
noncomputable def X9 (N : Nat) : Ev Try.prog D := X0.with (fs9 N)
theorem cok9 (N : Nat) : COk (X9 N) := COk.of (all9 N)
/-! ### humpyard/humpyardref02.digits -/
noncomputable def u0_r02_digits (N : Nat) : List (Pc D) := []
theorem oku0_r02_digits (N : Nat) : ∀ u ∈ u0_r02_digits N, PcOk (X9 N) (bodyOf Try.f89) u := pc_nil
noncomputable def Pr02_digits_1 : PD D := { path := [1, 1, 0, 1, 0, 0, 1, 0, 0, 0], ins := [.v 0 .str, .v 5 (.int .i64)], fx := [], ks := [], exs := [⟨.normal, [.v 24 .bool], []⟩], keep := [0, 1, 5] }
noncomputable def Fr02_digits_1 (N : Nat) : Pr02_digits_1.F := fun x => r02_digits_1 N x.1 x.2.1
theorem cr02_digits_1 (N : Nat) : CC (X9 N) (bodyOf Try.f89) Pr02_digits_1 (Fr02_digits_1 N) := CC.of (cok9 N) (us := u0_r02_digits N) (fun u h _ => oku0_r02_digits N u h) (fun x => by kernel_rfl)
noncomputable def ur02_digits_1 (N : Nat) : List (Pc D) := Pr02_digits_1.pc (X9 N) (Fr02_digits_1 N) :: u0_r02_digits N
theorem okur02_digits_1 (N : Nat) : ∀ u ∈ ur02_digits_1 N, PcOk (X9 N) (bodyOf Try.f89) u := pc_cons ((cr02_digits_1 N).pc (by kernel_rfl)) (oku0_r02_digits N)
noncomputable def Pr02_digits_0 : PD D := { path := [1, 1, 0, 1, 0], ins := [.v 0 .str, .v 1 (.int .i64), .v 5 (.int .i64)], fx := [], ks := [], exs := [⟨.exit 0, [], []⟩, ⟨.ret, [.v 4 .bool], []⟩], keep := [] }
noncomputable def Fr02_digits_0 (N n : Nat) : Pr02_digits_0.F := fun x => r02_digits_0 N x.1 x.2.1 n x.2.2.1
theorem cr02_digits_0 (N n : Nat) : CC (X9 N) (bodyOf Try.f89) Pr02_digits_0 (Fr02_digits_0 N n) := CC.loop (cok9 N) (us := ur02_digits_1 N) (c := sub (bodyOf Try.f89) [1, 1, 0, 1, 0, 0]) (by kernel_rfl) (by kernel_rfl) (fun u h _ => okur02_digits_1 N u h) (fun x => rfl) (fun n x => by kernel_rfl) n
noncomputable def ur02_digits_0 (N : Nat) : List (Pc D) := Pr02_digits_0.pc (X9 N) (Fr02_digits_0 N N) :: ur02_digits_1 N
theorem okur02_digits_0 (N : Nat) : ∀ u ∈ ur02_digits_0 N, PcOk (X9 N) (bodyOf Try.f89) u := pc_cons ((cr02_digits_0 N N).pc (by kernel_rfl)) (okur02_digits_1 N)
noncomputable def dr02_digits : FD D := { f := 89, np := 2, ins := [.v 0 .str, .v 1 (.int .i64)], fx := [], rcv := none, rk := 0, outs := [.v 4 .bool], ofx := [], rvs := [.tmp 4], flat := true }
noncomputable def Fr02_digits (N : Nat) : dr02_digits.F := fun r x => r02_digits N x.1 x.2.1
theorem or02_digits (N : Nat) : FOk Try.prog (X9 N) dr02_digits (Fr02_digits N) := ⟨⟨Try.f89, _, Try.func89, rfl, by kernel_rfl, by kernel_rfl, rfl, FC.of (cok9 N) (us := ur02_digits_0 N) (fun u h _ => okur02_digits_0 N u h) (fun r x => by kernel_rfl)⟩, by kernel_rfl, by kernel_rfl, by kernel_rfl, by kernel_rfl⟩
noncomputable def fs10 (N : Nat) : List (FE D) := ⟨dr02_digits, Fr02_digits N⟩ :: fs9 N
theorem all10 (N : Nat) : ∀ y ∈ fs10 N, CallOk X0 y.d y.F := all_cons (x := ⟨dr02_digits, Fr02_digits N⟩) (or02_digits N) (all9 N)
noncomputable def X10 (N : Nat) : Ev Try.prog D := X0.with (fs10 N)
theorem cok10 (N : Nat) : COk (X10 N) := COk.of (all10 N)
/-! ### humpyard/humpyardref02.sum -/
noncomputable def u0_r02_sum (N : Nat) : List (Pc D) := []
theorem oku0_r02_sum (N : Nat) : ∀ u ∈ u0_r02_sum N, PcOk (X10 N) (bodyOf Try.f90) u := pc_nil
noncomputable def Pr02_sum_1 : PD D := { path := [1, 1, 0, 1, 0, 0, 1, 0, 0, 1, 0, 1], ins := [.v 7 (.int .i64), .v 20 .bool], fx := [], ks := [], exs := [⟨.normal, [.v 7 (.int .i64)], []⟩], keep := [0, 1, 5, 6] }
noncomputable def Fr02_sum_1 (N : Nat) : Pr02_sum_1.F := fun x => r02_sum_1 N x.1 x.2.1
theorem cr02_sum_1 (N : Nat) : CC (X10 N) (bodyOf Try.f90) Pr02_sum_1 (Fr02_sum_1 N) := CC.of (cok10 N) (us := u0_r02_sum N) (fun u h _ => oku0_r02_sum N u h) (fun x => by kernel_rfl)
noncomputable def ur02_sum_1 (N : Nat) : List (Pc D) := Pr02_sum_1.pc (X10 N) (Fr02_sum_1 N) :: u0_r02_sum N
theorem okur02_sum_1 (N : Nat) : ∀ u ∈ ur02_sum_1 N, PcOk (X10 N) (bodyOf Try.f90) u := pc_cons ((cr02_sum_1 N).pc (by kernel_rfl)) (oku0_r02_sum N)
noncomputable def Pr02_sum_0 : PD D := { path := [1, 1, 0, 1, 0], ins := [.v 0 .str, .v 1 (.int .i64), .v 5 (.int .i64), .v 6 (.int .i64)], fx := [], ks := [], exs := [⟨.exit 0, [.v 5 (.int .i64)], []⟩], keep := [] }
noncomputable def Fr02_sum_0 (N n : Nat) : Pr02_sum_0.F := fun x => r02_sum_0 N x.1 x.2.1 n x.2.2.1 x.2.2.2.1
theorem cr02_sum_0 (N n : Nat) : CC (X10 N) (bodyOf Try.f90) Pr02_sum_0 (Fr02_sum_0 N n) := CC.loop (cok10 N) (us := ur02_sum_1 N) (c := sub (bodyOf Try.f90) [1, 1, 0, 1, 0, 0]) (by kernel_rfl) (by kernel_rfl) (fun u h _ => okur02_sum_1 N u h) (fun x => rfl) (fun n x => by kernel_rfl) n
noncomputable def ur02_sum_0 (N : Nat) : List (Pc D) := Pr02_sum_0.pc (X10 N) (Fr02_sum_0 N N) :: ur02_sum_1 N
theorem okur02_sum_0 (N : Nat) : ∀ u ∈ ur02_sum_0 N, PcOk (X10 N) (bodyOf Try.f90) u := pc_cons ((cr02_sum_0 N N).pc (by kernel_rfl)) (okur02_sum_1 N)
noncomputable def dr02_sum : FD D := { f := 90, np := 2, ins := [.v 0 .str, .v 1 (.int .i64)], fx := [], rcv := none, rk := 0, outs := [.v 4 (.int .i64)], ofx := [], rvs := [.tmp 4], flat := true }
noncomputable def Fr02_sum (N : Nat) : dr02_sum.F := fun r x => r02_sum N x.1 x.2.1
theorem or02_sum (N : Nat) : FOk Try.prog (X10 N) dr02_sum (Fr02_sum N) := ⟨⟨Try.f90, _, Try.func90, rfl, by kernel_rfl, by kernel_rfl, rfl, FC.of (cok10 N) (us := ur02_sum_0 N) (fun u h _ => okur02_sum_0 N u h) (fun r x => by kernel_rfl)⟩, by kernel_rfl, by kernel_rfl, by kernel_rfl, by kernel_rfl⟩
noncomputable def fs11 (N : Nat) : List (FE D) := ⟨dr02_sum, Fr02_sum N⟩ :: fs10 N
theorem all11 (N : Nat) : ∀ y ∈ fs11 N, CallOk X0 y.d y.F := all_cons (x := ⟨dr02_sum, Fr02_sum N⟩) (or02_sum N) (all10 N)
noncomputable def X11 (N : Nat) : Ev Try.prog D := X0.with (fs11 N)
theorem cok11 (N : Nat) : COk (X11 N) := COk.of (all11 N)
/-! ### humpyard/humpyardref02.Digit -/
noncomputable def u0_r02_Digit (N : Nat) : List (Pc D) := []
theorem oku0_r02_Digit (N : Nat) : ∀ u ∈ u0_r02_Digit N, PcOk (X11 N) (bodyOf Try.f84) u := pc_nil
noncomputable def dr02_Digit : FD D := { f := 84, np := 1, ins := [.v 0 .str], fx := [], rcv := none, rk := 0, outs := [.v 2 (.int .i64), .v 3 (.int .i64)], ofx := [], rvs := [.tmp 2, .tmp 3], flat := true }
noncomputable def Fr02_Digit (N : Nat) : dr02_Digit.F := fun r x => r02_Digit N x.1
theorem or02_Digit (N : Nat) : FOk Try.prog (X11 N) dr02_Digit (Fr02_Digit N) := ⟨⟨Try.f84, _, Try.func84, rfl, by kernel_rfl, by kernel_rfl, rfl, FC.of (cok11 N) (us := u0_r02_Digit N) (fun u h _ => oku0_r02_Digit N u h) (fun r x => by kernel_rfl)⟩, by kernel_rfl, by kernel_rfl, by kernel_rfl, by kernel_rfl⟩
noncomputable def fs12 (N : Nat) : List (FE D) := ⟨dr02_Digit, Fr02_Digit N⟩ :: fs11 N
theorem all12 (N : Nat) : ∀ y ∈ fs12 N, CallOk X0 y.d y.F := all_cons (x := ⟨dr02_Digit, Fr02_Digit N⟩) (or02_Digit N) (all11 N)
noncomputable def X12 (N : Nat) : Ev Try.prog D := X0.with (fs12 N)
theorem cok12 (N : Nat) : COk (X12 N) := COk.of (all12 N)
/-! ### (*humpyard/humpgen.Maker).Number -/
noncomputable def u0_Maker_Number (N : Nat) : List (Pc D) := []
theorem oku0_Maker_Number (N : Nat) : ∀ u ∈ u0_Maker_Number N, PcOk (X12 N) (bodyOf Try.f54) u := pc_nil
noncomputable def dMaker_Number : FD D := { f := 54, np := 2, ins := [.v 1 (.int .i64)], fx := [], rcv := some (0, 60), rk := 2, outs := [.v 4 .str, .u 0 (.recv 60)], ofx := [], rvs := [.tmp 4], flat := false }
noncomputable def FMaker_Number (N : Nat) : dMaker_Number.F := fun r x => Maker_Number N r x.1
theorem oMaker_Number (N : Nat) : FOk Try.prog (X12 N) dMaker_Number (FMaker_Number N) := ⟨⟨Try.f54, _, Try.func54, rfl, by kernel_rfl, by kernel_rfl, rfl, FC.of (cok12 N) (us := u0_Maker_Number N) (fun u h _ => oku0_Maker_Number N u h) (fun r x => by kernel_rfl)⟩, by kernel_rfl, by kernel_rfl, by kernel_rfl, by kernel_rfl⟩
noncomputable def fs13 (N : Nat) : List (FE D) := ⟨dMaker_Number, FMaker_Number N⟩ :: fs12 N
theorem all13 (N : Nat) : ∀ y ∈ fs13 N, CallOk X0 y.d y.F := all_cons (x := ⟨dMaker_Number, FMaker_Number N⟩) (oMaker_Number N) (all12 N)
noncomputable def X13 (N : Nat) : Ev Try.prog D := X0.with (fs13 N)
theorem cok13 (N : Nat) : COk (X13 N) := COk.of (all13 N)
/-! ### (*humpyard/humpgen.Maker).Name -/
noncomputable def u0_Maker_Name (N : Nat) : List (Pc D) := []
theorem oku0_Maker_Name (N : Nat) : ∀ u ∈ u0_Maker_Name N, PcOk (X13 N) (bodyOf Try.f55) u := pc_nil
noncomputable def dMaker_Name : FD D := { f := 55, np := 1, ins := [], fx := [], rcv := some (0, 60), rk := 2, outs := [.v 2 .str, .u 0 (.recv 60)], ofx := [], rvs := [.tmp 2], flat := false }
noncomputable def FMaker_Name (N : Nat) : dMaker_Name.F := fun r x => Maker_Name N r
theorem oMaker_Name (N : Nat) : FOk Try.prog (X13 N) dMaker_Name (FMaker_Name N) := ⟨⟨Try.f55, _, Try.func55, rfl, by kernel_rfl, by kernel_rfl, rfl, FC.of (cok13 N) (us := u0_Maker_Name N) (fun u h _ => oku0_Maker_Name N u h) (fun r x => by kernel_rfl)⟩, by kernel_rfl, by kernel_rfl, by kernel_rfl, by kernel_rfl⟩
noncomputable def fs14 (N : Nat) : List (FE D) := ⟨dMaker_Name, FMaker_Name N⟩ :: fs13 N
theorem all14 (N : Nat) : ∀ y ∈ fs14 N, CallOk X0 y.d y.F := all_cons (x := ⟨dMaker_Name, FMaker_Name N⟩) (oMaker_Name N) (all13 N)
noncomputable def X14 (N : Nat) : Ev Try.prog D := X0.with (fs14 N)
theorem cok14 (N : Nat) : COk (X14 N) := COk.of (all14 N)
/-! ### (*humpyard/humpgen.Maker).Wagon -/
noncomputable def u0_Maker_Wagon (N : Nat) : List (Pc D) := []
theorem oku0_Maker_Wagon (N : Nat) : ∀ u ∈ u0_Maker_Wagon N, PcOk (X14 N) (bodyOf Try.f35) u := pc_nil
noncomputable def PMaker_Wagon_1 : PD D := { path := [1, 1, 0, 1, 0, 0, 1], ins := [.o 0 (.recv 60), .o 4 (.box 53), .o 5 (.box 53), .v 26 (.int .u8), .v 27 .bool], fx := [(0, .box 0 0), (4, .box 1 0), (5, .box 2 0)], ks := [1, 1, 1], exs := [⟨.normal, [.v 27 .bool], []⟩], keep := [0, 4, 5, 26] }
noncomputable def FMaker_Wagon_1 (N : Nat) : PMaker_Wagon_1.F := fun x => Maker_Wagon_1 N x.2.2.2.1 x.2.2.2.2.1
theorem cMaker_Wagon_1 (N : Nat) : CC (X14 N) (bodyOf Try.f35) PMaker_Wagon_1 (FMaker_Wagon_1 N) := CC.of (cok14 N) (us := u0_Maker_Wagon N) (fun u h _ => oku0_Maker_Wagon N u h) (fun x => by kernel_rfl)
noncomputable def uMaker_Wagon_1 (N : Nat) : List (Pc D) := PMaker_Wagon_1.pc (X14 N) (FMaker_Wagon_1 N) :: u0_Maker_Wagon N
theorem okuMaker_Wagon_1 (N : Nat) : ∀ u ∈ uMaker_Wagon_1 N, PcOk (X14 N) (bodyOf Try.f35) u := pc_cons ((cMaker_Wagon_1 N).pc (by kernel_rfl)) (oku0_Maker_Wagon N)
noncomputable def PMaker_Wagon_0 : PD D := { path := [1, 1, 0, 1], ins := [.o 0 (.recv 60), .o 4 (.box 53), .o 5 (.box 53), .v 26 (.int .u8)], fx := [(0, .box 0 0), (4, .box 1 0), (5, .box 2 0)], ks := [1, 1, 2], exs := [⟨.normal, [.u 2 (.box 53)], []⟩], keep := [0, 4, 5] }
noncomputable def FMaker_Wagon_0 (N : Nat) : PMaker_Wagon_0.F := fun x => Maker_Wagon_0 N x.2.2.1 x.2.2.2.1
theorem cMaker_Wagon_0 (N : Nat) : CC (X14 N) (bodyOf Try.f35) PMaker_Wagon_0 (FMaker_Wagon_0 N) := CC.of (cok14 N) (us := uMaker_Wagon_1 N) (fun u h _ => okuMaker_Wagon_1 N u h) (fun x => by kernel_rfl)
noncomputable def uMaker_Wagon_0 (N : Nat) : List (Pc D) := PMaker_Wagon_0.pc (X14 N) (FMaker_Wagon_0 N) :: uMaker_Wagon_1 N
theorem okuMaker_Wagon_0 (N : Nat) : ∀ u ∈ uMaker_Wagon_0 N, PcOk (X14 N) (bodyOf Try.f35) u := pc_cons ((cMaker_Wagon_0 N).pc (by kernel_rfl)) (okuMaker_Wagon_1 N)
noncomputable def dMaker_Wagon : FD D := { f := 35, np := 2, ins := [.v 1 (.int .i64)], fx := [], rcv := some (0, 60), rk := 2, outs := [.v 1000000 (.agg 53), .u 0 (.recv 60)], ofx := [], rvs := [.cell 4 53], flat := false }
noncomputable def FMaker_Wagon (N : Nat) : dMaker_Wagon.F := fun r x => Maker_Wagon N r x.1
theorem oMaker_Wagon (N : Nat) : FOk Try.prog (X14 N) dMaker_Wagon (FMaker_Wagon N) := ⟨⟨Try.f35, _, Try.func35, rfl, by kernel_rfl, by kernel_rfl, rfl, FC.of (cok14 N) (us := uMaker_Wagon_0 N) (fun u h _ => okuMaker_Wagon_0 N u h) (fun r x => by kernel_rfl)⟩, by kernel_rfl, by kernel_rfl, by kernel_rfl, by kernel_rfl⟩
noncomputable def fs15 (N : Nat) : List (FE D) := ⟨dMaker_Wagon, FMaker_Wagon N⟩ :: fs14 N
theorem all15 (N : Nat) : ∀ y ∈ fs15 N, CallOk X0 y.d y.F := all_cons (x := ⟨dMaker_Wagon, FMaker_Wagon N⟩) (oMaker_Wagon N) (all14 N)
noncomputable def X15 (N : Nat) : Ev Try.prog D := X0.with (fs15 N)
theorem cok15 (N : Nat) : COk (X15 N) := COk.of (all15 N)
/-! ### (*humpyard/humpgen.Maker).Wagons -/
noncomputable def u0_Maker_Wagons (N : Nat) : List (Pc D) := []
theorem oku0_Maker_Wagons (N : Nat) : ∀ u ∈ u0_Maker_Wagons N, PcOk (X15 N) (bodyOf Try.f17) u := pc_nil
noncomputable def PMaker_Wagons_0 : PD D := { path := [1, 1, 0, 1, 0], ins := [.o 0 (.recv 60), .o 5 (.sl 53), .v 6 (.int .i64)], fx := [(0, .box 0 0), (5, .c (.own 1))], ks := [2, 0], exs := [⟨.exit 0, [.u 0 (.recv 60), .o 5 (.sl 53)], [(5, .c (.own 2))]⟩], keep := [0] }
noncomputable def FMaker_Wagons_0 (N n : Nat) : PMaker_Wagons_0.F := fun x => Maker_Wagons_0 N n x.1 x.2.1 x.2.2.1
theorem cMaker_Wagons_0 (N n : Nat) : CC (X15 N) (bodyOf Try.f17) PMaker_Wagons_0 (FMaker_Wagons_0 N n) := CC.loop (cok15 N) (us := u0_Maker_Wagons N) (c := sub (bodyOf Try.f17) [1, 1, 0, 1, 0, 0]) (by kernel_rfl) (by kernel_rfl) (fun u h _ => oku0_Maker_Wagons N u h) (fun x => rfl) (fun n x => by kernel_rfl) n
noncomputable def uMaker_Wagons_0 (N : Nat) : List (Pc D) := PMaker_Wagons_0.pc (X15 N) (FMaker_Wagons_0 N N) :: u0_Maker_Wagons N
theorem okuMaker_Wagons_0 (N : Nat) : ∀ u ∈ uMaker_Wagons_0 N, PcOk (X15 N) (bodyOf Try.f17) u := pc_cons ((cMaker_Wagons_0 N N).pc (by kernel_rfl)) (oku0_Maker_Wagons N)
noncomputable def dMaker_Wagons : FD D := { f := 17, np := 2, ins := [.v 1 (.int .i64)], fx := [], rcv := some (0, 60), rk := 2, outs := [.o 4 (.sl 53), .u 0 (.recv 60)], ofx := [(4, .c (.own 1))], rvs := [.tmp 4], flat := false }
noncomputable def FMaker_Wagons (N : Nat) : dMaker_Wagons.F := fun r x => Maker_Wagons N r x.1
theorem oMaker_Wagons (N : Nat) : FOk Try.prog (X15 N) dMaker_Wagons (FMaker_Wagons N) := ⟨⟨Try.f17, _, Try.func17, rfl, by kernel_rfl, by kernel_rfl, rfl, FC.of (cok15 N) (us := uMaker_Wagons_0 N) (fun u h _ => okuMaker_Wagons_0 N u h) (fun r x => by kernel_rfl)⟩, by kernel_rfl, by kernel_rfl, by kernel_rfl, by kernel_rfl⟩
noncomputable def fs16 (N : Nat) : List (FE D) := ⟨dMaker_Wagons, FMaker_Wagons N⟩ :: fs15 N
theorem all16 (N : Nat) : ∀ y ∈ fs16 N, CallOk X0 y.d y.F := all_cons (x := ⟨dMaker_Wagons, FMaker_Wagons N⟩) (oMaker_Wagons N) (all15 N)
noncomputable def X16 (N : Nat) : Ev Try.prog D := X0.with (fs16 N)
theorem cok16 (N : Nat) : COk (X16 N) := COk.of (all16 N)
/-! ### humpyard/humpyardlaw37.made -/
noncomputable def u0_l37_made (N : Nat) : List (Pc D) := []
theorem oku0_l37_made (N : Nat) : ∀ u ∈ u0_l37_made N, PcOk (X16 N) (bodyOf Try.f7) u := pc_nil
noncomputable def Pl37_made_1 : PD D := { path := [1, 1, 1, 1, 1, 0, 1, 0, 0, 1, 0], ins := [.o 0 (.recv 60), .o 4 (.box 29), .o 5 (.box 32), .o 7 (.box 29), .o 8 (.box 32), .o 9 (.sl 53), .v 10 (.int .i64), .v 11 (.int .i64)], fx := [(0, .box 0 0), (4, .box 1 0), (5, .box 2 0), (7, .box 3 0), (8, .box 4 0), (9, .c (.own 5))], ks := [2, 1, 1, 1, 1, 2], exs := [⟨.normal, [.u 0 (.recv 60), .u 5 (.sl 53), .v 10 (.int .i64)], []⟩], keep := [0, 4, 5, 7, 8, 9, 11] }
noncomputable def Fl37_made_1 (N : Nat) : Pl37_made_1.F := fun x => l37_made_1 N x.1 x.2.2.2.2.1 x.2.2.2.2.2.1 x.2.2.2.2.2.2.1 x.2.2.2.2.2.2.2.1
theorem cl37_made_1 (N : Nat) : CC (X16 N) (bodyOf Try.f7) Pl37_made_1 (Fl37_made_1 N) := CC.of (cok16 N) (us := u0_l37_made N) (fun u h _ => oku0_l37_made N u h) (fun x => by kernel_rfl)
noncomputable def ul37_made_1 (N : Nat) : List (Pc D) := Pl37_made_1.pc (X16 N) (Fl37_made_1 N) :: u0_l37_made N
theorem okul37_made_1 (N : Nat) : ∀ u ∈ ul37_made_1 N, PcOk (X16 N) (bodyOf Try.f7) u := pc_cons ((cl37_made_1 N).pc (by kernel_rfl)) (oku0_l37_made N)
noncomputable def Pl37_made_0 : PD D := { path := [1, 1, 1, 1, 1, 0, 1, 0], ins := [.o 0 (.recv 60), .o 4 (.box 29), .o 5 (.box 32), .o 7 (.box 29), .o 8 (.box 32), .o 9 (.sl 53), .v 10 (.int .i64), .v 11 (.int .i64)], fx := [(0, .box 0 0), (4, .box 1 0), (5, .box 2 0), (7, .box 3 0), (8, .box 4 0), (9, .c (.own 5))], ks := [2, 1, 1, 1, 1, 2], exs := [⟨.exit 0, [.u 0 (.recv 60), .u 5 (.sl 53)], []⟩], keep := [0, 4, 5, 7, 8, 9] }
noncomputable def Fl37_made_0 (N n : Nat) : Pl37_made_0.F := fun x => l37_made_0 N x.2.2.2.2.1 n x.1 x.2.2.2.2.2.1 x.2.2.2.2.2.2.1 x.2.2.2.2.2.2.2.1
theorem cl37_made_0 (N n : Nat) : CC (X16 N) (bodyOf Try.f7) Pl37_made_0 (Fl37_made_0 N n) := CC.loop (cok16 N) (us := ul37_made_1 N) (c := sub (bodyOf Try.f7) [1, 1, 1, 1, 1, 0, 1, 0, 0]) (by kernel_rfl) (by kernel_rfl) (fun u h _ => okul37_made_1 N u h) (fun x => rfl) (fun n x => by kernel_rfl) n
noncomputable def ul37_made_0 (N : Nat) : List (Pc D) := Pl37_made_0.pc (X16 N) (Fl37_made_0 N N) :: ul37_made_1 N
theorem okul37_made_0 (N : Nat) : ∀ u ∈ ul37_made_0 N, PcOk (X16 N) (bodyOf Try.f7) u := pc_cons ((cl37_made_0 N N).pc (by kernel_rfl)) (okul37_made_1 N)
noncomputable def dl37_made : FD D := { f := 7, np := 2, ins := [.v 1 (.int .i64)], fx := [], rcv := some (0, 60), rk := 2, outs := [.v 1000000 (.agg 29), .v 1000001 (.agg 32), .o 6 (.sl 53), .u 0 (.recv 60)], ofx := [(6, .c (.own 1))], rvs := [.cell 4 29, .cell 5 32, .tmp 6], flat := false }
noncomputable def Fl37_made (N : Nat) : dl37_made.F := fun r x => l37_made N r x.1
theorem ol37_made (N : Nat) : FOk Try.prog (X16 N) dl37_made (Fl37_made N) := ⟨⟨Try.f7, _, Try.func7, rfl, by kernel_rfl, by kernel_rfl, rfl, FC.of (cok16 N) (us := ul37_made_0 N) (fun u h _ => okul37_made_0 N u h) (fun r x => by kernel_rfl)⟩, by kernel_rfl, by kernel_rfl, by kernel_rfl, by kernel_rfl⟩
noncomputable def fs17 (N : Nat) : List (FE D) := ⟨dl37_made, Fl37_made N⟩ :: fs16 N
theorem all17 (N : Nat) : ∀ y ∈ fs17 N, CallOk X0 y.d y.F := all_cons (x := ⟨dl37_made, Fl37_made N⟩) (ol37_made N) (all16 N)
noncomputable def X17 (N : Nat) : Ev Try.prog D := X0.with (fs17 N)
theorem cok17 (N : Nat) : COk (X17 N) := COk.of (all17 N)
/-! ### humpyard/trainbuild.name -/
noncomputable def u0_trainbuild_name (N : Nat) : List (Pc D) := []
theorem oku0_trainbuild_name (N : Nat) : ∀ u ∈ u0_trainbuild_name N, PcOk (X17 N) (bodyOf Try.f56) u := pc_nil
noncomputable def Ptrainbuild_name_1 : PD D := { path := [1, 0, 1, 0, 0, 1, 1, 0, 0, 1, 0], ins := [.v 0 .str, .v 3 (.int .i64)], fx := [], ks := [], exs := [⟨.normal, [.v 30 .bool], []⟩], keep := [0, 5, 6] }
noncomputable def Ftrainbuild_name_1 (N : Nat) : Ptrainbuild_name_1.F := fun x => trainbuild_name_1 N x.1 x.2.1
theorem ctrainbuild_name_1 (N : Nat) : CC (X17 N) (bodyOf Try.f56) Ptrainbuild_name_1 (Ftrainbuild_name_1 N) := CC.of (cok17 N) (us := u0_trainbuild_name N) (fun u h _ => oku0_trainbuild_name N u h) (fun x => by kernel_rfl)
noncomputable def utrainbuild_name_1 (N : Nat) : List (Pc D) := Ptrainbuild_name_1.pc (X17 N) (Ftrainbuild_name_1 N) :: u0_trainbuild_name N
theorem okutrainbuild_name_1 (N : Nat) : ∀ u ∈ utrainbuild_name_1 N, PcOk (X17 N) (bodyOf Try.f56) u := pc_cons ((ctrainbuild_name_1 N).pc (by kernel_rfl)) (oku0_trainbuild_name N)
noncomputable def Ptrainbuild_name_0 : PD D := { path := [1, 0, 1, 0], ins := [.v 0 .str, .v 5 (.int .i64), .v 6 (.int .i64)], fx := [], ks := [], exs := [⟨.exit 0, [], []⟩, ⟨.ret, [.v 2 .bool], []⟩], keep := [0] }
noncomputable def Ftrainbuild_name_0 (N n : Nat) : Ptrainbuild_name_0.F := fun x => trainbuild_name_0 N x.1 x.2.1 n x.2.2.1
theorem ctrainbuild_name_0 (N n : Nat) : CC (X17 N) (bodyOf Try.f56) Ptrainbuild_name_0 (Ftrainbuild_name_0 N n) := CC.loop (cok17 N) (us := utrainbuild_name_1 N) (c := sub (bodyOf Try.f56) [1, 0, 1, 0, 0]) (by kernel_rfl) (by kernel_rfl) (fun u h _ => okutrainbuild_name_1 N u h) (fun x => rfl) (fun n x => by kernel_rfl) n
noncomputable def utrainbuild_name_0 (N : Nat) : List (Pc D) := Ptrainbuild_name_0.pc (X17 N) (Ftrainbuild_name_0 N N) :: utrainbuild_name_1 N
theorem okutrainbuild_name_0 (N : Nat) : ∀ u ∈ utrainbuild_name_0 N, PcOk (X17 N) (bodyOf Try.f56) u := pc_cons ((ctrainbuild_name_0 N N).pc (by kernel_rfl)) (okutrainbuild_name_1 N)
noncomputable def Ptrainbuild_name_2 : PD D := { path := [1, 1, 0], ins := [.v 0 .str], fx := [], ks := [], exs := [⟨.normal, [.v 2 .bool], []⟩], keep := [] }
noncomputable def Ftrainbuild_name_2 (N : Nat) : Ptrainbuild_name_2.F := fun x => trainbuild_name_2 N x.1
theorem ctrainbuild_name_2 (N : Nat) : CC (X17 N) (bodyOf Try.f56) Ptrainbuild_name_2 (Ftrainbuild_name_2 N) := CC.of (cok17 N) (us := utrainbuild_name_0 N) (fun u h _ => okutrainbuild_name_0 N u h) (fun x => by kernel_rfl)
noncomputable def utrainbuild_name_2 (N : Nat) : List (Pc D) := Ptrainbuild_name_2.pc (X17 N) (Ftrainbuild_name_2 N) :: utrainbuild_name_0 N
theorem okutrainbuild_name_2 (N : Nat) : ∀ u ∈ utrainbuild_name_2 N, PcOk (X17 N) (bodyOf Try.f56) u := pc_cons ((ctrainbuild_name_2 N).pc (by kernel_rfl)) (okutrainbuild_name_0 N)
noncomputable def dtrainbuild_name : FD D := { f := 56, np := 1, ins := [.v 0 .str], fx := [], rcv := none, rk := 0, outs := [.v 2 .bool], ofx := [], rvs := [.tmp 2], flat := true }
noncomputable def Ftrainbuild_name (N : Nat) : dtrainbuild_name.F := fun r x => trainbuild_name N x.1
theorem otrainbuild_name (N : Nat) : FOk Try.prog (X17 N) dtrainbuild_name (Ftrainbuild_name N) := ⟨⟨Try.f56, _, Try.func56, rfl, by kernel_rfl, by kernel_rfl, rfl, FC.of (cok17 N) (us := utrainbuild_name_2 N) (fun u h _ => okutrainbuild_name_2 N u h) (fun r x => by kernel_rfl)⟩, by kernel_rfl, by kernel_rfl, by kernel_rfl, by kernel_rfl⟩
noncomputable def fs18 (N : Nat) : List (FE D) := ⟨dtrainbuild_name, Ftrainbuild_name N⟩ :: fs17 N
theorem all18 (N : Nat) : ∀ y ∈ fs18 N, CallOk X0 y.d y.F := all_cons (x := ⟨dtrainbuild_name, Ftrainbuild_name N⟩) (otrainbuild_name N) (all17 N)
noncomputable def X18 (N : Nat) : Ev Try.prog D := X0.with (fs18 N)
theorem cok18 (N : Nat) : COk (X18 N) := COk.of (all18 N)
/-! ### humpyard/rulebook.valid -/
noncomputable def u0_rulebook_valid (N : Nat) : List (Pc D) := []
theorem oku0_rulebook_valid (N : Nat) : ∀ u ∈ u0_rulebook_valid N, PcOk (X18 N) (bodyOf Try.f64) u := pc_nil
noncomputable def Prulebook_valid_1 : PD D := { path := [1, 0, 1, 0, 0, 1, 1, 0, 0, 1, 0], ins := [.o 1 (.box 75), .v 4 (.int .i64), .o 11 (.sl 3)], fx := [(1, .box 0 0), (11, .c (.own 1))], ks := [1, 1], exs := [⟨.normal, [.v 22 .bool], []⟩], keep := [1, 11, 12, 13] }
noncomputable def Frulebook_valid_1 (N : Nat) : Prulebook_valid_1.F := fun x => rulebook_valid_1 N x.2.1
theorem crulebook_valid_1 (N : Nat) : CC (X18 N) (bodyOf Try.f64) Prulebook_valid_1 (Frulebook_valid_1 N) := CC.of (cok18 N) (us := u0_rulebook_valid N) (fun u h _ => oku0_rulebook_valid N u h) (fun x => by kernel_rfl)
noncomputable def urulebook_valid_1 (N : Nat) : List (Pc D) := Prulebook_valid_1.pc (X18 N) (Frulebook_valid_1 N) :: u0_rulebook_valid N
theorem okurulebook_valid_1 (N : Nat) : ∀ u ∈ urulebook_valid_1 N, PcOk (X18 N) (bodyOf Try.f64) u := pc_cons ((crulebook_valid_1 N).pc (by kernel_rfl)) (oku0_rulebook_valid N)
noncomputable def Prulebook_valid_0 : PD D := { path := [1, 0, 1, 0], ins := [.o 1 (.box 75), .o 11 (.sl 3), .v 12 (.int .i64), .v 13 (.int .i64)], fx := [(1, .box 0 0), (11, .c (.own 1))], ks := [1, 1], exs := [⟨.exit 0, [], []⟩, ⟨.ret, [.v 2 .bool], []⟩], keep := [1] }
noncomputable def Frulebook_valid_0 (N n : Nat) : Prulebook_valid_0.F := fun x => rulebook_valid_0 N x.2.1 x.2.2.1 n x.2.2.2.1
theorem crulebook_valid_0 (N n : Nat) : CC (X18 N) (bodyOf Try.f64) Prulebook_valid_0 (Frulebook_valid_0 N n) := CC.loop (cok18 N) (us := urulebook_valid_1 N) (c := sub (bodyOf Try.f64) [1, 0, 1, 0, 0]) (by kernel_rfl) (by kernel_rfl) (fun u h _ => okurulebook_valid_1 N u h) (fun x => rfl) (fun n x => by kernel_rfl) n
noncomputable def urulebook_valid_0 (N : Nat) : List (Pc D) := Prulebook_valid_0.pc (X18 N) (Frulebook_valid_0 N N) :: urulebook_valid_1 N
theorem okurulebook_valid_0 (N : Nat) : ∀ u ∈ urulebook_valid_0 N, PcOk (X18 N) (bodyOf Try.f64) u := pc_cons ((crulebook_valid_0 N N).pc (by kernel_rfl)) (okurulebook_valid_1 N)
noncomputable def Prulebook_valid_2 : PD D := { path := [1, 1, 0], ins := [.o 1 (.box 75)], fx := [(1, .box 0 0)], ks := [1], exs := [⟨.normal, [.v 2 .bool], []⟩], keep := [] }
noncomputable def Frulebook_valid_2 (N : Nat) : Prulebook_valid_2.F := fun x => rulebook_valid_2 N x.1
theorem crulebook_valid_2 (N : Nat) : CC (X18 N) (bodyOf Try.f64) Prulebook_valid_2 (Frulebook_valid_2 N) := CC.of (cok18 N) (us := urulebook_valid_0 N) (fun u h _ => okurulebook_valid_0 N u h) (fun x => by kernel_rfl)
noncomputable def urulebook_valid_2 (N : Nat) : List (Pc D) := Prulebook_valid_2.pc (X18 N) (Frulebook_valid_2 N) :: urulebook_valid_0 N
theorem okurulebook_valid_2 (N : Nat) : ∀ u ∈ urulebook_valid_2 N, PcOk (X18 N) (bodyOf Try.f64) u := pc_cons ((crulebook_valid_2 N).pc (by kernel_rfl)) (okurulebook_valid_0 N)
noncomputable def drulebook_valid : FD D := { f := 64, np := 1, ins := [.v 0 (.agg 75)], fx := [], rcv := none, rk := 0, outs := [.v 2 .bool], ofx := [], rvs := [.tmp 2], flat := true }
noncomputable def Frulebook_valid (N : Nat) : drulebook_valid.F := fun r x => rulebook_valid N x.1
theorem orulebook_valid (N : Nat) : FOk Try.prog (X18 N) drulebook_valid (Frulebook_valid N) := ⟨⟨Try.f64, _, Try.func64, rfl, by kernel_rfl, by kernel_rfl, rfl, FC.of (cok18 N) (us := urulebook_valid_2 N) (fun u h _ => okurulebook_valid_2 N u h) (fun r x => by kernel_rfl)⟩, by kernel_rfl, by kernel_rfl, by kernel_rfl, by kernel_rfl⟩
noncomputable def fs19 (N : Nat) : List (FE D) := ⟨drulebook_valid, Frulebook_valid N⟩ :: fs18 N
theorem all19 (N : Nat) : ∀ y ∈ fs19 N, CallOk X0 y.d y.F := all_cons (x := ⟨drulebook_valid, Frulebook_valid N⟩) (orulebook_valid N) (all18 N)
noncomputable def X19 (N : Nat) : Ev Try.prog D := X0.with (fs19 N)
theorem cok19 (N : Nat) : COk (X19 N) := COk.of (all19 N)
/-! ### humpyard/rulebook.Valid$1 -/
noncomputable def u0_rulebook_Valid_1 (N : Nat) : List (Pc D) := []
theorem oku0_rulebook_Valid_1 (N : Nat) : ∀ u ∈ u0_rulebook_Valid_1 N, PcOk (X19 N) (bodyOf Try.f66) u := pc_nil
noncomputable def drulebook_Valid_1 : FD D := { f := 66, np := 2, ins := [.v 0 (.agg 75), .v 1 (.rp 75)], fx := [], rcv := none, rk := 0, outs := [.v 3 .bool], ofx := [], rvs := [.tmp 3], flat := true }
noncomputable def Frulebook_Valid_1 (N : Nat) : drulebook_Valid_1.F := fun r x => rulebook_Valid_1 N x.1 x.2.1
theorem orulebook_Valid_1 (N : Nat) : FOk Try.prog (X19 N) drulebook_Valid_1 (Frulebook_Valid_1 N) := ⟨⟨Try.f66, _, Try.func66, rfl, by kernel_rfl, by kernel_rfl, rfl, FC.of (cok19 N) (us := u0_rulebook_Valid_1 N) (fun u h _ => oku0_rulebook_Valid_1 N u h) (fun r x => by kernel_rfl)⟩, by kernel_rfl, by kernel_rfl, by kernel_rfl, by kernel_rfl⟩
noncomputable def fs20 (N : Nat) : List (FE D) := ⟨drulebook_Valid_1, Frulebook_Valid_1 N⟩ :: fs19 N
theorem all20 (N : Nat) : ∀ y ∈ fs20 N, CallOk X0 y.d y.F := all_cons (x := ⟨drulebook_Valid_1, Frulebook_Valid_1 N⟩) (orulebook_Valid_1 N) (all19 N)
noncomputable def X20 (N : Nat) : Ev Try.prog D := X0.with (fs20 N)
theorem cok20 (N : Nat) : COk (X20 N) := COk.of (all20 N)
/-! ### slices.IndexFunc[[]humpyard/api.Rule,humpyard/api.Rule] -/
noncomputable def u0_slices_IndexFunc_api_Rule_api_Rule__rulebook_Valid_1 (N : Nat) : List (Pc D) := []
theorem oku0_slices_IndexFunc_api_Rule_api_Rule__rulebook_Valid_1 (N : Nat) : ∀ u ∈ u0_slices_IndexFunc_api_Rule_api_Rule__rulebook_Valid_1 N, PcOk (X20 N) (bodyOf Try.f86) u := pc_nil
noncomputable def Pslices_IndexFunc_api_Rule_api_Rule__rulebook_Valid_1_0 : PD D := { path := [1, 0, 1, 0], ins := [.v 0 (.sl 75), .v 1 (.fn 66 [75]), .v 7 (.int .i64), .v 8 (.int .i64)], fx := [], ks := [], exs := [⟨.exit 0, [], []⟩, ⟨.ret, [.v 4 (.int .i64)], []⟩], keep := [] }
noncomputable def Fslices_IndexFunc_api_Rule_api_Rule__rulebook_Valid_1_0 (N n : Nat) : Pslices_IndexFunc_api_Rule_api_Rule__rulebook_Valid_1_0.F := fun x => slices_IndexFunc_api_Rule_api_Rule__rulebook_Valid_1_0 N x.1 x.2.1.1 x.2.2.1 n x.2.2.2.1
theorem cslices_IndexFunc_api_Rule_api_Rule__rulebook_Valid_1_0 (N n : Nat) : CC (X20 N) (bodyOf Try.f86) Pslices_IndexFunc_api_Rule_api_Rule__rulebook_Valid_1_0 (Fslices_IndexFunc_api_Rule_api_Rule__rulebook_Valid_1_0 N n) := CC.loop (cok20 N) (us := u0_slices_IndexFunc_api_Rule_api_Rule__rulebook_Valid_1 N) (c := sub (bodyOf Try.f86) [1, 0, 1, 0, 0]) (by kernel_rfl) (by kernel_rfl) (fun u h _ => oku0_slices_IndexFunc_api_Rule_api_Rule__rulebook_Valid_1 N u h) (fun x => rfl) (fun n x => by kernel_rfl) n
noncomputable def uslices_IndexFunc_api_Rule_api_Rule__rulebook_Valid_1_0 (N : Nat) : List (Pc D) := Pslices_IndexFunc_api_Rule_api_Rule__rulebook_Valid_1_0.pc (X20 N) (Fslices_IndexFunc_api_Rule_api_Rule__rulebook_Valid_1_0 N N) :: u0_slices_IndexFunc_api_Rule_api_Rule__rulebook_Valid_1 N
theorem okuslices_IndexFunc_api_Rule_api_Rule__rulebook_Valid_1_0 (N : Nat) : ∀ u ∈ uslices_IndexFunc_api_Rule_api_Rule__rulebook_Valid_1_0 N, PcOk (X20 N) (bodyOf Try.f86) u := pc_cons ((cslices_IndexFunc_api_Rule_api_Rule__rulebook_Valid_1_0 N N).pc (by kernel_rfl)) (oku0_slices_IndexFunc_api_Rule_api_Rule__rulebook_Valid_1 N)
noncomputable def dslices_IndexFunc_api_Rule_api_Rule__rulebook_Valid_1 : FD D := { f := 86, np := 2, ins := [.v 0 (.sl 75), .v 1 (.fn 66 [75])], fx := [], rcv := none, rk := 0, outs := [.v 4 (.int .i64)], ofx := [], rvs := [.tmp 4], flat := true }
noncomputable def Fslices_IndexFunc_api_Rule_api_Rule__rulebook_Valid_1 (N : Nat) : dslices_IndexFunc_api_Rule_api_Rule__rulebook_Valid_1.F := fun r x => slices_IndexFunc_api_Rule_api_Rule__rulebook_Valid_1 N x.1 x.2.1.1
theorem oslices_IndexFunc_api_Rule_api_Rule__rulebook_Valid_1 (N : Nat) : FOk Try.prog (X20 N) dslices_IndexFunc_api_Rule_api_Rule__rulebook_Valid_1 (Fslices_IndexFunc_api_Rule_api_Rule__rulebook_Valid_1 N) := ⟨⟨Try.f86, _, Try.func86, rfl, by kernel_rfl, by kernel_rfl, rfl, FC.of (cok20 N) (us := uslices_IndexFunc_api_Rule_api_Rule__rulebook_Valid_1_0 N) (fun u h _ => okuslices_IndexFunc_api_Rule_api_Rule__rulebook_Valid_1_0 N u h) (fun r x => by kernel_rfl)⟩, by kernel_rfl, by kernel_rfl, by kernel_rfl, by kernel_rfl⟩
noncomputable def fs21 (N : Nat) : List (FE D) := ⟨dslices_IndexFunc_api_Rule_api_Rule__rulebook_Valid_1, Fslices_IndexFunc_api_Rule_api_Rule__rulebook_Valid_1 N⟩ :: fs20 N
theorem all21 (N : Nat) : ∀ y ∈ fs21 N, CallOk X0 y.d y.F := all_cons (x := ⟨dslices_IndexFunc_api_Rule_api_Rule__rulebook_Valid_1, Fslices_IndexFunc_api_Rule_api_Rule__rulebook_Valid_1 N⟩) (oslices_IndexFunc_api_Rule_api_Rule__rulebook_Valid_1 N) (all20 N)
noncomputable def X21 (N : Nat) : Ev Try.prog D := X0.with (fs21 N)
theorem cok21 (N : Nat) : COk (X21 N) := COk.of (all21 N)
/-! ### slices.ContainsFunc[[]humpyard/api.Rule,humpyard/api.Rule] -/
noncomputable def u0_slices_ContainsFunc_api_Rule_api_Rule__rulebook_Valid_1 (N : Nat) : List (Pc D) := []
theorem oku0_slices_ContainsFunc_api_Rule_api_Rule__rulebook_Valid_1 (N : Nat) : ∀ u ∈ u0_slices_ContainsFunc_api_Rule_api_Rule__rulebook_Valid_1 N, PcOk (X21 N) (bodyOf Try.f65) u := pc_nil
noncomputable def dslices_ContainsFunc_api_Rule_api_Rule__rulebook_Valid_1 : FD D := { f := 65, np := 2, ins := [.v 0 (.sl 75), .v 1 (.fn 66 [75])], fx := [], rcv := none, rk := 0, outs := [.v 4 .bool], ofx := [], rvs := [.tmp 4], flat := true }
noncomputable def Fslices_ContainsFunc_api_Rule_api_Rule__rulebook_Valid_1 (N : Nat) : dslices_ContainsFunc_api_Rule_api_Rule__rulebook_Valid_1.F := fun r x => slices_ContainsFunc_api_Rule_api_Rule__rulebook_Valid_1 N x.1 x.2.1.1
theorem oslices_ContainsFunc_api_Rule_api_Rule__rulebook_Valid_1 (N : Nat) : FOk Try.prog (X21 N) dslices_ContainsFunc_api_Rule_api_Rule__rulebook_Valid_1 (Fslices_ContainsFunc_api_Rule_api_Rule__rulebook_Valid_1 N) := ⟨⟨Try.f65, _, Try.func65, rfl, by kernel_rfl, by kernel_rfl, rfl, FC.of (cok21 N) (us := u0_slices_ContainsFunc_api_Rule_api_Rule__rulebook_Valid_1 N) (fun u h _ => oku0_slices_ContainsFunc_api_Rule_api_Rule__rulebook_Valid_1 N u h) (fun r x => by kernel_rfl)⟩, by kernel_rfl, by kernel_rfl, by kernel_rfl, by kernel_rfl⟩
noncomputable def fs22 (N : Nat) : List (FE D) := ⟨dslices_ContainsFunc_api_Rule_api_Rule__rulebook_Valid_1, Fslices_ContainsFunc_api_Rule_api_Rule__rulebook_Valid_1 N⟩ :: fs21 N
theorem all22 (N : Nat) : ∀ y ∈ fs22 N, CallOk X0 y.d y.F := all_cons (x := ⟨dslices_ContainsFunc_api_Rule_api_Rule__rulebook_Valid_1, Fslices_ContainsFunc_api_Rule_api_Rule__rulebook_Valid_1 N⟩) (oslices_ContainsFunc_api_Rule_api_Rule__rulebook_Valid_1 N) (all21 N)
noncomputable def X22 (N : Nat) : Ev Try.prog D := X0.with (fs22 N)
theorem cok22 (N : Nat) : COk (X22 N) := COk.of (all22 N)
/-! ### humpyard/rulebook.Valid -/
noncomputable def u0_rulebook_Valid (N : Nat) : List (Pc D) := []
theorem oku0_rulebook_Valid (N : Nat) : ∀ u ∈ u0_rulebook_Valid N, PcOk (X22 N) (bodyOf Try.f42) u := pc_nil
noncomputable def Prulebook_Valid_0 : PD D := { path := [1, 1, 0, 1, 0], ins := [.v 0 (.sl 75), .v 8 (.sl 75), .v 9 (.int .i64), .v 10 (.int .i64)], fx := [], ks := [], exs := [⟨.exit 0, [], []⟩, ⟨.ret, [.v 2 (.int .i64)], []⟩], keep := [] }
noncomputable def Frulebook_Valid_0 (N n : Nat) : Prulebook_Valid_0.F := fun x => rulebook_Valid_0 N x.1 x.2.1 x.2.2.1 n x.2.2.2.1
theorem crulebook_Valid_0 (N n : Nat) : CC (X22 N) (bodyOf Try.f42) Prulebook_Valid_0 (Frulebook_Valid_0 N n) := CC.loop (cok22 N) (us := u0_rulebook_Valid N) (c := sub (bodyOf Try.f42) [1, 1, 0, 1, 0, 0]) (by kernel_rfl) (by kernel_rfl) (fun u h _ => oku0_rulebook_Valid N u h) (fun x => rfl) (fun n x => by kernel_rfl) n
noncomputable def urulebook_Valid_0 (N : Nat) : List (Pc D) := Prulebook_Valid_0.pc (X22 N) (Frulebook_Valid_0 N N) :: u0_rulebook_Valid N
theorem okurulebook_Valid_0 (N : Nat) : ∀ u ∈ urulebook_Valid_0 N, PcOk (X22 N) (bodyOf Try.f42) u := pc_cons ((crulebook_Valid_0 N N).pc (by kernel_rfl)) (oku0_rulebook_Valid N)
noncomputable def drulebook_Valid : FD D := { f := 42, np := 1, ins := [.v 0 (.sl 75)], fx := [], rcv := none, rk := 0, outs := [.v 2 (.int .i64)], ofx := [], rvs := [.tmp 2], flat := true }
noncomputable def Frulebook_Valid (N : Nat) : drulebook_Valid.F := fun r x => rulebook_Valid N x.1
theorem orulebook_Valid (N : Nat) : FOk Try.prog (X22 N) drulebook_Valid (Frulebook_Valid N) := ⟨⟨Try.f42, _, Try.func42, rfl, by kernel_rfl, by kernel_rfl, rfl, FC.of (cok22 N) (us := urulebook_Valid_0 N) (fun u h _ => okurulebook_Valid_0 N u h) (fun r x => by kernel_rfl)⟩, by kernel_rfl, by kernel_rfl, by kernel_rfl, by kernel_rfl⟩
noncomputable def fs23 (N : Nat) : List (FE D) := ⟨drulebook_Valid, Frulebook_Valid N⟩ :: fs22 N
theorem all23 (N : Nat) : ∀ y ∈ fs23 N, CallOk X0 y.d y.F := all_cons (x := ⟨drulebook_Valid, Frulebook_Valid N⟩) (orulebook_Valid N) (all22 N)
noncomputable def X23 (N : Nat) : Ev Try.prog D := X0.with (fs23 N)
theorem cok23 (N : Nat) : COk (X23 N) := COk.of (all23 N)
/-! ### humpyard/brake.in -/
noncomputable def u0_brake_in (N : Nat) : List (Pc D) := []
theorem oku0_brake_in (N : Nat) : ∀ u ∈ u0_brake_in N, PcOk (X23 N) (bodyOf Try.f61) u := pc_nil
noncomputable def Pbrake_in_0 : PD D := { path := [1, 0], ins := [.v 0 (.int .i64), .v 1 (.int .i64), .v 2 (.int .i64)], fx := [], ks := [], exs := [⟨.normal, [.v 6 .bool], []⟩], keep := [] }
noncomputable def Fbrake_in_0 (N : Nat) : Pbrake_in_0.F := fun x => brake_in_0 N x.1 x.2.1 x.2.2.1
theorem cbrake_in_0 (N : Nat) : CC (X23 N) (bodyOf Try.f61) Pbrake_in_0 (Fbrake_in_0 N) := CC.of (cok23 N) (us := u0_brake_in N) (fun u h _ => oku0_brake_in N u h) (fun x => by kernel_rfl)
noncomputable def ubrake_in_0 (N : Nat) : List (Pc D) := Pbrake_in_0.pc (X23 N) (Fbrake_in_0 N) :: u0_brake_in N
theorem okubrake_in_0 (N : Nat) : ∀ u ∈ ubrake_in_0 N, PcOk (X23 N) (bodyOf Try.f61) u := pc_cons ((cbrake_in_0 N).pc (by kernel_rfl)) (oku0_brake_in N)
noncomputable def dbrake_in : FD D := { f := 61, np := 3, ins := [.v 0 (.int .i64), .v 1 (.int .i64), .v 2 (.int .i64)], fx := [], rcv := none, rk := 0, outs := [.v 6 .bool], ofx := [], rvs := [.tmp 6], flat := true }
noncomputable def Fbrake_in (N : Nat) : dbrake_in.F := fun r x => brake_in N x.1 x.2.1 x.2.2.1
theorem obrake_in (N : Nat) : FOk Try.prog (X23 N) dbrake_in (Fbrake_in N) := ⟨⟨Try.f61, _, Try.func61, rfl, by kernel_rfl, by kernel_rfl, rfl, FC.of (cok23 N) (us := ubrake_in_0 N) (fun u h _ => okubrake_in_0 N u h) (fun r x => by kernel_rfl)⟩, by kernel_rfl, by kernel_rfl, by kernel_rfl, by kernel_rfl⟩
noncomputable def fs24 (N : Nat) : List (FE D) := ⟨dbrake_in, Fbrake_in N⟩ :: fs23 N
theorem all24 (N : Nat) : ∀ y ∈ fs24 N, CallOk X0 y.d y.F := all_cons (x := ⟨dbrake_in, Fbrake_in N⟩) (obrake_in N) (all23 N)
noncomputable def X24 (N : Nat) : Ev Try.prog D := X0.with (fs24 N)
theorem cok24 (N : Nat) : COk (X24 N) := COk.of (all24 N)
/-! ### humpyard/brake.ValidTable -/
noncomputable def u0_brake_ValidTable (N : Nat) : List (Pc D) := []
theorem oku0_brake_ValidTable (N : Nat) : ∀ u ∈ u0_brake_ValidTable N, PcOk (X24 N) (bodyOf Try.f57) u := pc_nil
noncomputable def Pbrake_ValidTable_1 : PD D := { path := [1, 0, 1, 0, 0, 1, 1, 0, 0, 1, 0], ins := [.o 4 (.box 72)], fx := [(4, .box 0 0)], ks := [1], exs := [⟨.normal, [.v 26 .bool], []⟩], keep := [0, 5, 6, 7] }
noncomputable def Fbrake_ValidTable_1 (N : Nat) : Pbrake_ValidTable_1.F := fun x => brake_ValidTable_1 N x.1
theorem cbrake_ValidTable_1 (N : Nat) : CC (X24 N) (bodyOf Try.f57) Pbrake_ValidTable_1 (Fbrake_ValidTable_1 N) := CC.of (cok24 N) (us := u0_brake_ValidTable N) (fun u h _ => oku0_brake_ValidTable N u h) (fun x => by kernel_rfl)
noncomputable def ubrake_ValidTable_1 (N : Nat) : List (Pc D) := Pbrake_ValidTable_1.pc (X24 N) (Fbrake_ValidTable_1 N) :: u0_brake_ValidTable N
theorem okubrake_ValidTable_1 (N : Nat) : ∀ u ∈ ubrake_ValidTable_1 N, PcOk (X24 N) (bodyOf Try.f57) u := pc_cons ((cbrake_ValidTable_1 N).pc (by kernel_rfl)) (oku0_brake_ValidTable N)
noncomputable def Pbrake_ValidTable_0 : PD D := { path := [1, 0, 1, 0], ins := [.v 5 (.sl 72), .v 6 (.int .i64), .v 7 (.int .i64)], fx := [], ks := [], exs := [⟨.exit 0, [], []⟩, ⟨.ret, [.v 2 .bool], []⟩], keep := [0] }
noncomputable def Fbrake_ValidTable_0 (N n : Nat) : Pbrake_ValidTable_0.F := fun x => brake_ValidTable_0 N x.1 x.2.1 n x.2.2.1
theorem cbrake_ValidTable_0 (N n : Nat) : CC (X24 N) (bodyOf Try.f57) Pbrake_ValidTable_0 (Fbrake_ValidTable_0 N n) := CC.loop (cok24 N) (us := ubrake_ValidTable_1 N) (c := sub (bodyOf Try.f57) [1, 0, 1, 0, 0]) (by kernel_rfl) (by kernel_rfl) (fun u h _ => okubrake_ValidTable_1 N u h) (fun x => rfl) (fun n x => by kernel_rfl) n
noncomputable def ubrake_ValidTable_0 (N : Nat) : List (Pc D) := Pbrake_ValidTable_0.pc (X24 N) (Fbrake_ValidTable_0 N N) :: ubrake_ValidTable_1 N
theorem okubrake_ValidTable_0 (N : Nat) : ∀ u ∈ ubrake_ValidTable_0 N, PcOk (X24 N) (bodyOf Try.f57) u := pc_cons ((cbrake_ValidTable_0 N N).pc (by kernel_rfl)) (okubrake_ValidTable_1 N)
noncomputable def dbrake_ValidTable : FD D := { f := 57, np := 1, ins := [.v 0 (.sl 72)], fx := [], rcv := none, rk := 0, outs := [.v 2 .bool], ofx := [], rvs := [.tmp 2], flat := true }
noncomputable def Fbrake_ValidTable (N : Nat) : dbrake_ValidTable.F := fun r x => brake_ValidTable N x.1
theorem obrake_ValidTable (N : Nat) : FOk Try.prog (X24 N) dbrake_ValidTable (Fbrake_ValidTable N) := ⟨⟨Try.f57, _, Try.func57, rfl, by kernel_rfl, by kernel_rfl, rfl, FC.of (cok24 N) (us := ubrake_ValidTable_0 N) (fun u h _ => okubrake_ValidTable_0 N u h) (fun r x => by kernel_rfl)⟩, by kernel_rfl, by kernel_rfl, by kernel_rfl, by kernel_rfl⟩
noncomputable def fs25 (N : Nat) : List (FE D) := ⟨dbrake_ValidTable, Fbrake_ValidTable N⟩ :: fs24 N
theorem all25 (N : Nat) : ∀ y ∈ fs25 N, CallOk X0 y.d y.F := all_cons (x := ⟨dbrake_ValidTable, Fbrake_ValidTable N⟩) (obrake_ValidTable N) (all24 N)
noncomputable def X25 (N : Nat) : Ev Try.prog D := X0.with (fs25 N)
theorem cok25 (N : Nat) : COk (X25 N) := COk.of (all25 N)
/-! ### humpyard/trainbuild.ValidConfig -/
noncomputable def u0_trainbuild_ValidConfig (N : Nat) : List (Pc D) := []
theorem oku0_trainbuild_ValidConfig (N : Nat) : ∀ u ∈ u0_trainbuild_ValidConfig N, PcOk (X25 N) (bodyOf Try.f36) u := pc_nil
noncomputable def Ptrainbuild_ValidConfig_0 : PD D := { path := [1, 0, 0], ins := [.o 1 (.box 29)], fx := [(1, .box 0 0)], ks := [1], exs := [⟨.normal, [.v 36 .bool], []⟩], keep := [1] }
noncomputable def Ftrainbuild_ValidConfig_0 (N : Nat) : Ptrainbuild_ValidConfig_0.F := fun x => trainbuild_ValidConfig_0 N x.1
theorem ctrainbuild_ValidConfig_0 (N : Nat) : CC (X25 N) (bodyOf Try.f36) Ptrainbuild_ValidConfig_0 (Ftrainbuild_ValidConfig_0 N) := CC.of (cok25 N) (us := u0_trainbuild_ValidConfig N) (fun u h _ => oku0_trainbuild_ValidConfig N u h) (fun x => by kernel_rfl)
noncomputable def utrainbuild_ValidConfig_0 (N : Nat) : List (Pc D) := Ptrainbuild_ValidConfig_0.pc (X25 N) (Ftrainbuild_ValidConfig_0 N) :: u0_trainbuild_ValidConfig N
theorem okutrainbuild_ValidConfig_0 (N : Nat) : ∀ u ∈ utrainbuild_ValidConfig_0 N, PcOk (X25 N) (bodyOf Try.f36) u := pc_cons ((ctrainbuild_ValidConfig_0 N).pc (by kernel_rfl)) (oku0_trainbuild_ValidConfig N)
noncomputable def Ptrainbuild_ValidConfig_2 : PD D := { path := [1, 1, 1, 0, 1, 0, 0, 1, 1, 0, 0, 1, 0, 0], ins := [.o 1 (.box 29), .o 3 (.map 104 9 4), .o 5 (.box 70)], fx := [(1, .box 0 0), (3, .c (.own 1)), (5, .box 2 0)], ks := [1, 1, 1], exs := [⟨.normal, [.v 64 .bool], []⟩], keep := [1, 3, 5, 39, 40, 41] }
noncomputable def Ftrainbuild_ValidConfig_2 (N : Nat) : Ptrainbuild_ValidConfig_2.F := fun x => trainbuild_ValidConfig_2 N x.2.1 x.2.2.1
theorem ctrainbuild_ValidConfig_2 (N : Nat) : CC (X25 N) (bodyOf Try.f36) Ptrainbuild_ValidConfig_2 (Ftrainbuild_ValidConfig_2 N) := CC.of (cok25 N) (us := utrainbuild_ValidConfig_0 N) (fun u h _ => okutrainbuild_ValidConfig_0 N u h) (fun x => by kernel_rfl)
noncomputable def utrainbuild_ValidConfig_2 (N : Nat) : List (Pc D) := Ptrainbuild_ValidConfig_2.pc (X25 N) (Ftrainbuild_ValidConfig_2 N) :: utrainbuild_ValidConfig_0 N
theorem okutrainbuild_ValidConfig_2 (N : Nat) : ∀ u ∈ utrainbuild_ValidConfig_2 N, PcOk (X25 N) (bodyOf Try.f36) u := pc_cons ((ctrainbuild_ValidConfig_2 N).pc (by kernel_rfl)) (okutrainbuild_ValidConfig_0 N)
noncomputable def Ptrainbuild_ValidConfig_1 : PD D := { path := [1, 1, 1, 0, 1, 0], ins := [.o 1 (.box 29), .o 3 (.map 104 9 4), .v 39 (.sl 70), .v 40 (.int .i64), .v 41 (.int .i64)], fx := [(1, .box 0 0), (3, .c (.own 1))], ks := [1, 0], exs := [⟨.exit 0, [], []⟩, ⟨.ret, [.v 2 (.int .i64)], []⟩], keep := [1] }
noncomputable def Ftrainbuild_ValidConfig_1 (N n : Nat) : Ptrainbuild_ValidConfig_1.F := fun x => trainbuild_ValidConfig_1 N x.2.2.1 x.2.2.2.1 n x.2.1 x.2.2.2.2.1
theorem ctrainbuild_ValidConfig_1 (N n : Nat) : CC (X25 N) (bodyOf Try.f36) Ptrainbuild_ValidConfig_1 (Ftrainbuild_ValidConfig_1 N n) := CC.loop (cok25 N) (us := utrainbuild_ValidConfig_2 N) (c := sub (bodyOf Try.f36) [1, 1, 1, 0, 1, 0, 0]) (by kernel_rfl) (by kernel_rfl) (fun u h _ => okutrainbuild_ValidConfig_2 N u h) (fun x => rfl) (fun n x => by kernel_rfl) n
noncomputable def utrainbuild_ValidConfig_1 (N : Nat) : List (Pc D) := Ptrainbuild_ValidConfig_1.pc (X25 N) (Ftrainbuild_ValidConfig_1 N N) :: utrainbuild_ValidConfig_2 N
theorem okutrainbuild_ValidConfig_1 (N : Nat) : ∀ u ∈ utrainbuild_ValidConfig_1 N, PcOk (X25 N) (bodyOf Try.f36) u := pc_cons ((ctrainbuild_ValidConfig_1 N N).pc (by kernel_rfl)) (okutrainbuild_ValidConfig_2 N)
noncomputable def dtrainbuild_ValidConfig : FD D := { f := 36, np := 1, ins := [.v 0 (.agg 29)], fx := [], rcv := none, rk := 0, outs := [.v 2 (.int .i64)], ofx := [], rvs := [.tmp 2], flat := true }
noncomputable def Ftrainbuild_ValidConfig (N : Nat) : dtrainbuild_ValidConfig.F := fun r x => trainbuild_ValidConfig N x.1
theorem otrainbuild_ValidConfig (N : Nat) : FOk Try.prog (X25 N) dtrainbuild_ValidConfig (Ftrainbuild_ValidConfig N) := ⟨⟨Try.f36, _, Try.func36, rfl, by kernel_rfl, by kernel_rfl, rfl, FC.of (cok25 N) (us := utrainbuild_ValidConfig_1 N) (fun u h _ => okutrainbuild_ValidConfig_1 N u h) (fun r x => by kernel_rfl)⟩, by kernel_rfl, by kernel_rfl, by kernel_rfl, by kernel_rfl⟩
noncomputable def fs26 (N : Nat) : List (FE D) := ⟨dtrainbuild_ValidConfig, Ftrainbuild_ValidConfig N⟩ :: fs25 N
theorem all26 (N : Nat) : ∀ y ∈ fs26 N, CallOk X0 y.d y.F := all_cons (x := ⟨dtrainbuild_ValidConfig, Ftrainbuild_ValidConfig N⟩) (otrainbuild_ValidConfig N) (all25 N)
noncomputable def X26 (N : Nat) : Ev Try.prog D := X0.with (fs26 N)
theorem cok26 (N : Nat) : COk (X26 N) := COk.of (all26 N)
/-! ### slices.Index[[]string,string] -/
noncomputable def u0_slices_Index_string_string (N : Nat) : List (Pc D) := []
theorem oku0_slices_Index_string_string (N : Nat) : ∀ u ∈ u0_slices_Index_string_string N, PcOk (X26 N) (bodyOf Try.f60) u := pc_nil
noncomputable def Pslices_Index_string_string_0 : PD D := { path := [1, 0, 1, 0], ins := [.v 0 (.sl 9), .v 1 .str, .v 7 (.int .i64), .v 8 (.int .i64)], fx := [], ks := [], exs := [⟨.exit 0, [], []⟩, ⟨.ret, [.v 4 (.int .i64)], []⟩], keep := [] }
noncomputable def Fslices_Index_string_string_0 (N n : Nat) : Pslices_Index_string_string_0.F := fun x => slices_Index_string_string_0 N x.1 x.2.1 x.2.2.1 n x.2.2.2.1
theorem cslices_Index_string_string_0 (N n : Nat) : CC (X26 N) (bodyOf Try.f60) Pslices_Index_string_string_0 (Fslices_Index_string_string_0 N n) := CC.loop (cok26 N) (us := u0_slices_Index_string_string N) (c := sub (bodyOf Try.f60) [1, 0, 1, 0, 0]) (by kernel_rfl) (by kernel_rfl) (fun u h _ => oku0_slices_Index_string_string N u h) (fun x => rfl) (fun n x => by kernel_rfl) n
noncomputable def uslices_Index_string_string_0 (N : Nat) : List (Pc D) := Pslices_Index_string_string_0.pc (X26 N) (Fslices_Index_string_string_0 N N) :: u0_slices_Index_string_string N
theorem okuslices_Index_string_string_0 (N : Nat) : ∀ u ∈ uslices_Index_string_string_0 N, PcOk (X26 N) (bodyOf Try.f60) u := pc_cons ((cslices_Index_string_string_0 N N).pc (by kernel_rfl)) (oku0_slices_Index_string_string N)
noncomputable def dslices_Index_string_string : FD D := { f := 60, np := 2, ins := [.v 0 (.sl 9), .v 1 .str], fx := [], rcv := none, rk := 0, outs := [.v 4 (.int .i64)], ofx := [], rvs := [.tmp 4], flat := true }
noncomputable def Fslices_Index_string_string (N : Nat) : dslices_Index_string_string.F := fun r x => slices_Index_string_string N x.1 x.2.1
theorem oslices_Index_string_string (N : Nat) : FOk Try.prog (X26 N) dslices_Index_string_string (Fslices_Index_string_string N) := ⟨⟨Try.f60, _, Try.func60, rfl, by kernel_rfl, by kernel_rfl, rfl, FC.of (cok26 N) (us := uslices_Index_string_string_0 N) (fun u h _ => okuslices_Index_string_string_0 N u h) (fun r x => by kernel_rfl)⟩, by kernel_rfl, by kernel_rfl, by kernel_rfl, by kernel_rfl⟩
noncomputable def fs27 (N : Nat) : List (FE D) := ⟨dslices_Index_string_string, Fslices_Index_string_string N⟩ :: fs26 N
theorem all27 (N : Nat) : ∀ y ∈ fs27 N, CallOk X0 y.d y.F := all_cons (x := ⟨dslices_Index_string_string, Fslices_Index_string_string N⟩) (oslices_Index_string_string N) (all26 N)
noncomputable def X27 (N : Nat) : Ev Try.prog D := X0.with (fs27 N)
theorem cok27 (N : Nat) : COk (X27 N) := COk.of (all27 N)
/-! ### slices.Contains[[]string,string] -/
noncomputable def u0_slices_Contains_string_string (N : Nat) : List (Pc D) := []
theorem oku0_slices_Contains_string_string (N : Nat) : ∀ u ∈ u0_slices_Contains_string_string N, PcOk (X27 N) (bodyOf Try.f58) u := pc_nil
noncomputable def dslices_Contains_string_string : FD D := { f := 58, np := 2, ins := [.v 0 (.sl 9), .v 1 .str], fx := [], rcv := none, rk := 0, outs := [.v 4 .bool], ofx := [], rvs := [.tmp 4], flat := true }
noncomputable def Fslices_Contains_string_string (N : Nat) : dslices_Contains_string_string.F := fun r x => slices_Contains_string_string N x.1 x.2.1
theorem oslices_Contains_string_string (N : Nat) : FOk Try.prog (X27 N) dslices_Contains_string_string (Fslices_Contains_string_string N) := ⟨⟨Try.f58, _, Try.func58, rfl, by kernel_rfl, by kernel_rfl, rfl, FC.of (cok27 N) (us := u0_slices_Contains_string_string N) (fun u h _ => oku0_slices_Contains_string_string N u h) (fun r x => by kernel_rfl)⟩, by kernel_rfl, by kernel_rfl, by kernel_rfl, by kernel_rfl⟩
noncomputable def fs28 (N : Nat) : List (FE D) := ⟨dslices_Contains_string_string, Fslices_Contains_string_string N⟩ :: fs27 N
theorem all28 (N : Nat) : ∀ y ∈ fs28 N, CallOk X0 y.d y.F := all_cons (x := ⟨dslices_Contains_string_string, Fslices_Contains_string_string N⟩) (oslices_Contains_string_string N) (all27 N)
noncomputable def X28 (N : Nat) : Ev Try.prog D := X0.with (fs28 N)
theorem cok28 (N : Nat) : COk (X28 N) := COk.of (all28 N)
/-! ### humpyard/trainbuild.ValidOrder -/
noncomputable def u0_trainbuild_ValidOrder (N : Nat) : List (Pc D) := []
theorem oku0_trainbuild_ValidOrder (N : Nat) : ∀ u ∈ u0_trainbuild_ValidOrder N, PcOk (X28 N) (bodyOf Try.f37) u := pc_nil
noncomputable def Ptrainbuild_ValidOrder_0 : PD D := { path := [1, 0, 0], ins := [.o 2 (.box 29), .o 3 (.box 32)], fx := [(2, .box 0 0), (3, .box 1 0)], ks := [1, 1], exs := [⟨.normal, [.v 35 .bool], []⟩], keep := [3] }
noncomputable def Ftrainbuild_ValidOrder_0 (N : Nat) : Ptrainbuild_ValidOrder_0.F := fun x => trainbuild_ValidOrder_0 N x.1 x.2.1
theorem ctrainbuild_ValidOrder_0 (N : Nat) : CC (X28 N) (bodyOf Try.f37) Ptrainbuild_ValidOrder_0 (Ftrainbuild_ValidOrder_0 N) := CC.of (cok28 N) (us := u0_trainbuild_ValidOrder N) (fun u h _ => oku0_trainbuild_ValidOrder N u h) (fun x => by kernel_rfl)
noncomputable def utrainbuild_ValidOrder_0 (N : Nat) : List (Pc D) := Ptrainbuild_ValidOrder_0.pc (X28 N) (Ftrainbuild_ValidOrder_0 N) :: u0_trainbuild_ValidOrder N
theorem okutrainbuild_ValidOrder_0 (N : Nat) : ∀ u ∈ utrainbuild_ValidOrder_0 N, PcOk (X28 N) (bodyOf Try.f37) u := pc_cons ((ctrainbuild_ValidOrder_0 N).pc (by kernel_rfl)) (oku0_trainbuild_ValidOrder N)
noncomputable def Ptrainbuild_ValidOrder_2 : PD D := { path := [1, 1, 0, 1, 0, 0, 1, 1, 0, 0, 1, 0], ins := [.o 3 (.box 32), .v 5 (.int .i64), .v 6 .str], fx := [(3, .box 0 0)], ks := [1], exs := [⟨.normal, [.v 54 .bool], []⟩], keep := [3, 37, 38, 39] }
noncomputable def Ftrainbuild_ValidOrder_2 (N : Nat) : Ptrainbuild_ValidOrder_2.F := fun x => trainbuild_ValidOrder_2 N x.1 x.2.1 x.2.2.1
theorem ctrainbuild_ValidOrder_2 (N : Nat) : CC (X28 N) (bodyOf Try.f37) Ptrainbuild_ValidOrder_2 (Ftrainbuild_ValidOrder_2 N) := CC.of (cok28 N) (us := utrainbuild_ValidOrder_0 N) (fun u h _ => okutrainbuild_ValidOrder_0 N u h) (fun x => by kernel_rfl)
noncomputable def utrainbuild_ValidOrder_2 (N : Nat) : List (Pc D) := Ptrainbuild_ValidOrder_2.pc (X28 N) (Ftrainbuild_ValidOrder_2 N) :: utrainbuild_ValidOrder_0 N
theorem okutrainbuild_ValidOrder_2 (N : Nat) : ∀ u ∈ utrainbuild_ValidOrder_2 N, PcOk (X28 N) (bodyOf Try.f37) u := pc_cons ((ctrainbuild_ValidOrder_2 N).pc (by kernel_rfl)) (okutrainbuild_ValidOrder_0 N)
noncomputable def Ptrainbuild_ValidOrder_1 : PD D := { path := [1, 1, 0, 1, 0], ins := [.o 3 (.box 32), .v 37 (.sl 9), .v 38 (.int .i64), .v 39 (.int .i64)], fx := [(3, .box 0 0)], ks := [1], exs := [⟨.exit 0, [], []⟩, ⟨.ret, [.v 4 .bool], []⟩], keep := [] }
noncomputable def Ftrainbuild_ValidOrder_1 (N n : Nat) : Ptrainbuild_ValidOrder_1.F := fun x => trainbuild_ValidOrder_1 N x.1 x.2.1 x.2.2.1 n x.2.2.2.1
theorem ctrainbuild_ValidOrder_1 (N n : Nat) : CC (X28 N) (bodyOf Try.f37) Ptrainbuild_ValidOrder_1 (Ftrainbuild_ValidOrder_1 N n) := CC.loop (cok28 N) (us := utrainbuild_ValidOrder_2 N) (c := sub (bodyOf Try.f37) [1, 1, 0, 1, 0, 0]) (by kernel_rfl) (by kernel_rfl) (fun u h _ => okutrainbuild_ValidOrder_2 N u h) (fun x => rfl) (fun n x => by kernel_rfl) n
noncomputable def utrainbuild_ValidOrder_1 (N : Nat) : List (Pc D) := Ptrainbuild_ValidOrder_1.pc (X28 N) (Ftrainbuild_ValidOrder_1 N N) :: utrainbuild_ValidOrder_2 N
theorem okutrainbuild_ValidOrder_1 (N : Nat) : ∀ u ∈ utrainbuild_ValidOrder_1 N, PcOk (X28 N) (bodyOf Try.f37) u := pc_cons ((ctrainbuild_ValidOrder_1 N N).pc (by kernel_rfl)) (okutrainbuild_ValidOrder_2 N)
noncomputable def dtrainbuild_ValidOrder : FD D := { f := 37, np := 2, ins := [.v 0 (.agg 29), .v 1 (.agg 32)], fx := [], rcv := none, rk := 0, outs := [.v 4 .bool], ofx := [], rvs := [.tmp 4], flat := true }
noncomputable def Ftrainbuild_ValidOrder (N : Nat) : dtrainbuild_ValidOrder.F := fun r x => trainbuild_ValidOrder N x.1 x.2.1
theorem otrainbuild_ValidOrder (N : Nat) : FOk Try.prog (X28 N) dtrainbuild_ValidOrder (Ftrainbuild_ValidOrder N) := ⟨⟨Try.f37, _, Try.func37, rfl, by kernel_rfl, by kernel_rfl, rfl, FC.of (cok28 N) (us := utrainbuild_ValidOrder_1 N) (fun u h _ => okutrainbuild_ValidOrder_1 N u h) (fun r x => by kernel_rfl)⟩, by kernel_rfl, by kernel_rfl, by kernel_rfl, by kernel_rfl⟩
noncomputable def fs29 (N : Nat) : List (FE D) := ⟨dtrainbuild_ValidOrder, Ftrainbuild_ValidOrder N⟩ :: fs28 N
theorem all29 (N : Nat) : ∀ y ∈ fs29 N, CallOk X0 y.d y.F := all_cons (x := ⟨dtrainbuild_ValidOrder, Ftrainbuild_ValidOrder N⟩) (otrainbuild_ValidOrder N) (all28 N)
noncomputable def X29 (N : Nat) : Ev Try.prog D := X0.with (fs29 N)
theorem cok29 (N : Nat) : COk (X29 N) := COk.of (all29 N)
/-! ### humpyard/wagonnumber.digits -/
noncomputable def u0_wagonnumber_digits (N : Nat) : List (Pc D) := []
theorem oku0_wagonnumber_digits (N : Nat) : ∀ u ∈ u0_wagonnumber_digits N, PcOk (X29 N) (bodyOf Try.f99) u := pc_nil
noncomputable def Pwagonnumber_digits_1 : PD D := { path := [1, 0, 1, 0, 0, 1, 0, 0, 0], ins := [.v 0 .str, .v 5 (.int .i64)], fx := [], ks := [], exs := [⟨.normal, [.v 21 .bool], []⟩], keep := [0, 1, 5] }
noncomputable def Fwagonnumber_digits_1 (N : Nat) : Pwagonnumber_digits_1.F := fun x => wagonnumber_digits_1 N x.1 x.2.1
theorem cwagonnumber_digits_1 (N : Nat) : CC (X29 N) (bodyOf Try.f99) Pwagonnumber_digits_1 (Fwagonnumber_digits_1 N) := CC.of (cok29 N) (us := u0_wagonnumber_digits N) (fun u h _ => oku0_wagonnumber_digits N u h) (fun x => by kernel_rfl)
noncomputable def uwagonnumber_digits_1 (N : Nat) : List (Pc D) := Pwagonnumber_digits_1.pc (X29 N) (Fwagonnumber_digits_1 N) :: u0_wagonnumber_digits N
theorem okuwagonnumber_digits_1 (N : Nat) : ∀ u ∈ uwagonnumber_digits_1 N, PcOk (X29 N) (bodyOf Try.f99) u := pc_cons ((cwagonnumber_digits_1 N).pc (by kernel_rfl)) (oku0_wagonnumber_digits N)
noncomputable def Pwagonnumber_digits_0 : PD D := { path := [1, 0, 1, 0], ins := [.v 0 .str, .v 5 (.int .i64)], fx := [], ks := [], exs := [⟨.exit 0, [], []⟩, ⟨.ret, [.v 4 .bool], []⟩], keep := [0, 1] }
noncomputable def Fwagonnumber_digits_0 (N n : Nat) : Pwagonnumber_digits_0.F := fun x => wagonnumber_digits_0 N x.1 n x.2.1
theorem cwagonnumber_digits_0 (N n : Nat) : CC (X29 N) (bodyOf Try.f99) Pwagonnumber_digits_0 (Fwagonnumber_digits_0 N n) := CC.loop (cok29 N) (us := uwagonnumber_digits_1 N) (c := sub (bodyOf Try.f99) [1, 0, 1, 0, 0]) (by kernel_rfl) (by kernel_rfl) (fun u h _ => okuwagonnumber_digits_1 N u h) (fun x => rfl) (fun n x => by kernel_rfl) n
noncomputable def uwagonnumber_digits_0 (N : Nat) : List (Pc D) := Pwagonnumber_digits_0.pc (X29 N) (Fwagonnumber_digits_0 N N) :: uwagonnumber_digits_1 N
theorem okuwagonnumber_digits_0 (N : Nat) : ∀ u ∈ uwagonnumber_digits_0 N, PcOk (X29 N) (bodyOf Try.f99) u := pc_cons ((cwagonnumber_digits_0 N N).pc (by kernel_rfl)) (okuwagonnumber_digits_1 N)
noncomputable def dwagonnumber_digits : FD D := { f := 99, np := 2, ins := [.v 0 .str, .v 1 (.int .i64)], fx := [], rcv := none, rk := 0, outs := [.v 4 .bool], ofx := [], rvs := [.tmp 4], flat := true }
noncomputable def Fwagonnumber_digits (N : Nat) : dwagonnumber_digits.F := fun r x => wagonnumber_digits N x.1 x.2.1
theorem owagonnumber_digits (N : Nat) : FOk Try.prog (X29 N) dwagonnumber_digits (Fwagonnumber_digits N) := ⟨⟨Try.f99, _, Try.func99, rfl, by kernel_rfl, by kernel_rfl, rfl, FC.of (cok29 N) (us := uwagonnumber_digits_0 N) (fun u h _ => okuwagonnumber_digits_0 N u h) (fun r x => by kernel_rfl)⟩, by kernel_rfl, by kernel_rfl, by kernel_rfl, by kernel_rfl⟩
noncomputable def fs30 (N : Nat) : List (FE D) := ⟨dwagonnumber_digits, Fwagonnumber_digits N⟩ :: fs29 N
theorem all30 (N : Nat) : ∀ y ∈ fs30 N, CallOk X0 y.d y.F := all_cons (x := ⟨dwagonnumber_digits, Fwagonnumber_digits N⟩) (owagonnumber_digits N) (all29 N)
noncomputable def X30 (N : Nat) : Ev Try.prog D := X0.with (fs30 N)
theorem cok30 (N : Nat) : COk (X30 N) := COk.of (all30 N)
/-! ### humpyard/wagonnumber.sum -/
noncomputable def u0_wagonnumber_sum (N : Nat) : List (Pc D) := []
theorem oku0_wagonnumber_sum (N : Nat) : ∀ u ∈ u0_wagonnumber_sum N, PcOk (X30 N) (bodyOf Try.f101) u := pc_nil
noncomputable def Pwagonnumber_sum_1 : PD D := { path := [1, 1, 0, 1, 0, 0, 1, 0, 0, 1, 0, 1], ins := [.v 5 (.int .i64), .v 19 .bool], fx := [], ks := [], exs := [⟨.normal, [.v 5 (.int .i64)], []⟩], keep := [0, 3, 4] }
noncomputable def Fwagonnumber_sum_1 (N : Nat) : Pwagonnumber_sum_1.F := fun x => wagonnumber_sum_1 N x.1 x.2.1
theorem cwagonnumber_sum_1 (N : Nat) : CC (X30 N) (bodyOf Try.f101) Pwagonnumber_sum_1 (Fwagonnumber_sum_1 N) := CC.of (cok30 N) (us := u0_wagonnumber_sum N) (fun u h _ => oku0_wagonnumber_sum N u h) (fun x => by kernel_rfl)
noncomputable def uwagonnumber_sum_1 (N : Nat) : List (Pc D) := Pwagonnumber_sum_1.pc (X30 N) (Fwagonnumber_sum_1 N) :: u0_wagonnumber_sum N
theorem okuwagonnumber_sum_1 (N : Nat) : ∀ u ∈ uwagonnumber_sum_1 N, PcOk (X30 N) (bodyOf Try.f101) u := pc_cons ((cwagonnumber_sum_1 N).pc (by kernel_rfl)) (oku0_wagonnumber_sum N)
noncomputable def Pwagonnumber_sum_0 : PD D := { path := [1, 1, 0, 1, 0], ins := [.v 0 .str, .v 3 (.int .i64), .v 4 (.int .i64)], fx := [], ks := [], exs := [⟨.exit 0, [.v 3 (.int .i64)], []⟩], keep := [] }
noncomputable def Fwagonnumber_sum_0 (N n : Nat) : Pwagonnumber_sum_0.F := fun x => wagonnumber_sum_0 N x.1 n x.2.1 x.2.2.1
theorem cwagonnumber_sum_0 (N n : Nat) : CC (X30 N) (bodyOf Try.f101) Pwagonnumber_sum_0 (Fwagonnumber_sum_0 N n) := CC.loop (cok30 N) (us := uwagonnumber_sum_1 N) (c := sub (bodyOf Try.f101) [1, 1, 0, 1, 0, 0]) (by kernel_rfl) (by kernel_rfl) (fun u h _ => okuwagonnumber_sum_1 N u h) (fun x => rfl) (fun n x => by kernel_rfl) n
noncomputable def uwagonnumber_sum_0 (N : Nat) : List (Pc D) := Pwagonnumber_sum_0.pc (X30 N) (Fwagonnumber_sum_0 N N) :: uwagonnumber_sum_1 N
theorem okuwagonnumber_sum_0 (N : Nat) : ∀ u ∈ uwagonnumber_sum_0 N, PcOk (X30 N) (bodyOf Try.f101) u := pc_cons ((cwagonnumber_sum_0 N N).pc (by kernel_rfl)) (okuwagonnumber_sum_1 N)
noncomputable def dwagonnumber_sum : FD D := { f := 101, np := 1, ins := [.v 0 .str], fx := [], rcv := none, rk := 0, outs := [.v 2 (.int .i64)], ofx := [], rvs := [.tmp 2], flat := true }
noncomputable def Fwagonnumber_sum (N : Nat) : dwagonnumber_sum.F := fun r x => wagonnumber_sum N x.1
theorem owagonnumber_sum (N : Nat) : FOk Try.prog (X30 N) dwagonnumber_sum (Fwagonnumber_sum N) := ⟨⟨Try.f101, _, Try.func101, rfl, by kernel_rfl, by kernel_rfl, rfl, FC.of (cok30 N) (us := uwagonnumber_sum_0 N) (fun u h _ => okuwagonnumber_sum_0 N u h) (fun r x => by kernel_rfl)⟩, by kernel_rfl, by kernel_rfl, by kernel_rfl, by kernel_rfl⟩
noncomputable def fs31 (N : Nat) : List (FE D) := ⟨dwagonnumber_sum, Fwagonnumber_sum N⟩ :: fs30 N
theorem all31 (N : Nat) : ∀ y ∈ fs31 N, CallOk X0 y.d y.F := all_cons (x := ⟨dwagonnumber_sum, Fwagonnumber_sum N⟩) (owagonnumber_sum N) (all30 N)
noncomputable def X31 (N : Nat) : Ev Try.prog D := X0.with (fs31 N)
theorem cok31 (N : Nat) : COk (X31 N) := COk.of (all31 N)
/-! ### humpyard/wagonnumber.check -/
noncomputable def u0_wagonnumber_check (N : Nat) : List (Pc D) := []
theorem oku0_wagonnumber_check (N : Nat) : ∀ u ∈ u0_wagonnumber_check N, PcOk (X31 N) (bodyOf Try.f100) u := pc_nil
noncomputable def dwagonnumber_check : FD D := { f := 100, np := 1, ins := [.v 0 .str], fx := [], rcv := none, rk := 0, outs := [.v 2 (.int .i64)], ofx := [], rvs := [.tmp 2], flat := true }
noncomputable def Fwagonnumber_check (N : Nat) : dwagonnumber_check.F := fun r x => wagonnumber_check N x.1
theorem owagonnumber_check (N : Nat) : FOk Try.prog (X31 N) dwagonnumber_check (Fwagonnumber_check N) := ⟨⟨Try.f100, _, Try.func100, rfl, by kernel_rfl, by kernel_rfl, rfl, FC.of (cok31 N) (us := u0_wagonnumber_check N) (fun u h _ => oku0_wagonnumber_check N u h) (fun r x => by kernel_rfl)⟩, by kernel_rfl, by kernel_rfl, by kernel_rfl, by kernel_rfl⟩
noncomputable def fs32 (N : Nat) : List (FE D) := ⟨dwagonnumber_check, Fwagonnumber_check N⟩ :: fs31 N
theorem all32 (N : Nat) : ∀ y ∈ fs32 N, CallOk X0 y.d y.F := all_cons (x := ⟨dwagonnumber_check, Fwagonnumber_check N⟩) (owagonnumber_check N) (all31 N)
noncomputable def X32 (N : Nat) : Ev Try.prog D := X0.with (fs32 N)
theorem cok32 (N : Nat) : COk (X32 N) := COk.of (all32 N)
/-! ### humpyard/wagonnumber.Valid -/
noncomputable def u0_wagonnumber_Valid (N : Nat) : List (Pc D) := []
theorem oku0_wagonnumber_Valid (N : Nat) : ∀ u ∈ u0_wagonnumber_Valid N, PcOk (X32 N) (bodyOf Try.f97) u := pc_nil
noncomputable def dwagonnumber_Valid : FD D := { f := 97, np := 1, ins := [.v 0 .str], fx := [], rcv := none, rk := 0, outs := [.v 2 (.int .i64)], ofx := [], rvs := [.tmp 2], flat := true }
noncomputable def Fwagonnumber_Valid (N : Nat) : dwagonnumber_Valid.F := fun r x => wagonnumber_Valid N x.1
theorem owagonnumber_Valid (N : Nat) : FOk Try.prog (X32 N) dwagonnumber_Valid (Fwagonnumber_Valid N) := ⟨⟨Try.f97, _, Try.func97, rfl, by kernel_rfl, by kernel_rfl, rfl, FC.of (cok32 N) (us := u0_wagonnumber_Valid N) (fun u h _ => oku0_wagonnumber_Valid N u h) (fun r x => by kernel_rfl)⟩, by kernel_rfl, by kernel_rfl, by kernel_rfl, by kernel_rfl⟩
noncomputable def fs33 (N : Nat) : List (FE D) := ⟨dwagonnumber_Valid, Fwagonnumber_Valid N⟩ :: fs32 N
theorem all33 (N : Nat) : ∀ y ∈ fs33 N, CallOk X0 y.d y.F := all_cons (x := ⟨dwagonnumber_Valid, Fwagonnumber_Valid N⟩) (owagonnumber_Valid N) (all32 N)
noncomputable def X33 (N : Nat) : Ev Try.prog D := X0.with (fs33 N)
theorem cok33 (N : Nat) : COk (X33 N) := COk.of (all33 N)
/-! ### humpyard/wagonnumber.Kind -/
noncomputable def u0_wagonnumber_Kind (N : Nat) : List (Pc D) := []
theorem oku0_wagonnumber_Kind (N : Nat) : ∀ u ∈ u0_wagonnumber_Kind N, PcOk (X33 N) (bodyOf Try.f91) u := pc_nil
noncomputable def Pwagonnumber_Kind_0 : PD D := { path := [1, 1, 0, 1, 0, 0, 1], ins := [.v 11 (.int .u8), .v 12 .bool], fx := [], ks := [], exs := [⟨.normal, [.v 12 .bool], []⟩], keep := [11] }
noncomputable def Fwagonnumber_Kind_0 (N : Nat) : Pwagonnumber_Kind_0.F := fun x => wagonnumber_Kind_0 N x.1 x.2.1
theorem cwagonnumber_Kind_0 (N : Nat) : CC (X33 N) (bodyOf Try.f91) Pwagonnumber_Kind_0 (Fwagonnumber_Kind_0 N) := CC.of (cok33 N) (us := u0_wagonnumber_Kind N) (fun u h _ => oku0_wagonnumber_Kind N u h) (fun x => by kernel_rfl)
noncomputable def uwagonnumber_Kind_0 (N : Nat) : List (Pc D) := Pwagonnumber_Kind_0.pc (X33 N) (Fwagonnumber_Kind_0 N) :: u0_wagonnumber_Kind N
theorem okuwagonnumber_Kind_0 (N : Nat) : ∀ u ∈ uwagonnumber_Kind_0 N, PcOk (X33 N) (bodyOf Try.f91) u := pc_cons ((cwagonnumber_Kind_0 N).pc (by kernel_rfl)) (oku0_wagonnumber_Kind N)
noncomputable def Pwagonnumber_Kind_1 : PD D := { path := [1, 1, 0, 1, 0, 1, 1, 0, 1], ins := [.v 11 (.int .u8), .v 15 .bool], fx := [], ks := [], exs := [⟨.normal, [.v 15 .bool], []⟩], keep := [11] }
noncomputable def Fwagonnumber_Kind_1 (N : Nat) : Pwagonnumber_Kind_1.F := fun x => wagonnumber_Kind_1 N x.1 x.2.1
theorem cwagonnumber_Kind_1 (N : Nat) : CC (X33 N) (bodyOf Try.f91) Pwagonnumber_Kind_1 (Fwagonnumber_Kind_1 N) := CC.of (cok33 N) (us := uwagonnumber_Kind_0 N) (fun u h _ => okuwagonnumber_Kind_0 N u h) (fun x => by kernel_rfl)
noncomputable def uwagonnumber_Kind_1 (N : Nat) : List (Pc D) := Pwagonnumber_Kind_1.pc (X33 N) (Fwagonnumber_Kind_1 N) :: uwagonnumber_Kind_0 N
theorem okuwagonnumber_Kind_1 (N : Nat) : ∀ u ∈ uwagonnumber_Kind_1 N, PcOk (X33 N) (bodyOf Try.f91) u := pc_cons ((cwagonnumber_Kind_1 N).pc (by kernel_rfl)) (okuwagonnumber_Kind_0 N)
noncomputable def dwagonnumber_Kind : FD D := { f := 91, np := 1, ins := [.v 0 .str], fx := [], rcv := none, rk := 0, outs := [.v 2 (.int .i64), .v 3 (.int .i64)], ofx := [], rvs := [.tmp 2, .tmp 3], flat := true }
noncomputable def Fwagonnumber_Kind (N : Nat) : dwagonnumber_Kind.F := fun r x => wagonnumber_Kind N x.1
theorem owagonnumber_Kind (N : Nat) : FOk Try.prog (X33 N) dwagonnumber_Kind (Fwagonnumber_Kind N) := ⟨⟨Try.f91, _, Try.func91, rfl, by kernel_rfl, by kernel_rfl, rfl, FC.of (cok33 N) (us := uwagonnumber_Kind_1 N) (fun u h _ => okuwagonnumber_Kind_1 N u h) (fun r x => by kernel_rfl)⟩, by kernel_rfl, by kernel_rfl, by kernel_rfl, by kernel_rfl⟩
noncomputable def fs34 (N : Nat) : List (FE D) := ⟨dwagonnumber_Kind, Fwagonnumber_Kind N⟩ :: fs33 N
theorem all34 (N : Nat) : ∀ y ∈ fs34 N, CallOk X0 y.d y.F := all_cons (x := ⟨dwagonnumber_Kind, Fwagonnumber_Kind N⟩) (owagonnumber_Kind N) (all33 N)
noncomputable def X34 (N : Nat) : Ev Try.prog D := X0.with (fs34 N)
theorem cok34 (N : Nat) : COk (X34 N) := COk.of (all34 N)
/-! ### humpyard/consist.axles -/
noncomputable def u0_consist_axles (N : Nat) : List (Pc D) := []
theorem oku0_consist_axles (N : Nat) : ∀ u ∈ u0_consist_axles N, PcOk (X34 N) (bodyOf Try.f92) u := pc_nil
noncomputable def dconsist_axles : FD D := { f := 92, np := 1, ins := [.v 0 (.int .i64)], fx := [], rcv := none, rk := 0, outs := [.v 2 (.int .i64)], ofx := [], rvs := [.tmp 2], flat := true }
noncomputable def Fconsist_axles (N : Nat) : dconsist_axles.F := fun r x => consist_axles N x.1
theorem oconsist_axles (N : Nat) : FOk Try.prog (X34 N) dconsist_axles (Fconsist_axles N) := ⟨⟨Try.f92, _, Try.func92, rfl, by kernel_rfl, by kernel_rfl, rfl, FC.of (cok34 N) (us := u0_consist_axles N) (fun u h _ => oku0_consist_axles N u h) (fun r x => by kernel_rfl)⟩, by kernel_rfl, by kernel_rfl, by kernel_rfl, by kernel_rfl⟩
noncomputable def fs35 (N : Nat) : List (FE D) := ⟨dconsist_axles, Fconsist_axles N⟩ :: fs34 N
theorem all35 (N : Nat) : ∀ y ∈ fs35 N, CallOk X0 y.d y.F := all_cons (x := ⟨dconsist_axles, Fconsist_axles N⟩) (oconsist_axles N) (all34 N)
noncomputable def X35 (N : Nat) : Ev Try.prog D := X0.with (fs35 N)
theorem cok35 (N : Nat) : COk (X35 N) := COk.of (all35 N)
/-! ### humpyard/consist.name -/
noncomputable def u0_consist_name (N : Nat) : List (Pc D) := []
theorem oku0_consist_name (N : Nat) : ∀ u ∈ u0_consist_name N, PcOk (X35 N) (bodyOf Try.f93) u := pc_nil
noncomputable def Pconsist_name_1 : PD D := { path := [1, 0, 1, 0, 0, 1, 0, 0, 1, 0], ins := [.v 4 (.int .u8)], fx := [], ks := [], exs := [⟨.normal, [.v 27 .bool], []⟩], keep := [0, 3] }
noncomputable def Fconsist_name_1 (N : Nat) : Pconsist_name_1.F := fun x => consist_name_1 N x.1
theorem cconsist_name_1 (N : Nat) : CC (X35 N) (bodyOf Try.f93) Pconsist_name_1 (Fconsist_name_1 N) := CC.of (cok35 N) (us := u0_consist_name N) (fun u h _ => oku0_consist_name N u h) (fun x => by kernel_rfl)
noncomputable def uconsist_name_1 (N : Nat) : List (Pc D) := Pconsist_name_1.pc (X35 N) (Fconsist_name_1 N) :: u0_consist_name N
theorem okuconsist_name_1 (N : Nat) : ∀ u ∈ uconsist_name_1 N, PcOk (X35 N) (bodyOf Try.f93) u := pc_cons ((cconsist_name_1 N).pc (by kernel_rfl)) (oku0_consist_name N)
noncomputable def Pconsist_name_0 : PD D := { path := [1, 0, 1, 0], ins := [.v 0 .str, .v 3 (.int .i64)], fx := [], ks := [], exs := [⟨.exit 0, [], []⟩, ⟨.ret, [.v 2 .bool], []⟩], keep := [0] }
noncomputable def Fconsist_name_0 (N n : Nat) : Pconsist_name_0.F := fun x => consist_name_0 N x.1 n x.2.1
theorem cconsist_name_0 (N n : Nat) : CC (X35 N) (bodyOf Try.f93) Pconsist_name_0 (Fconsist_name_0 N n) := CC.loop (cok35 N) (us := uconsist_name_1 N) (c := sub (bodyOf Try.f93) [1, 0, 1, 0, 0]) (by kernel_rfl) (by kernel_rfl) (fun u h _ => okuconsist_name_1 N u h) (fun x => rfl) (fun n x => by kernel_rfl) n
noncomputable def uconsist_name_0 (N : Nat) : List (Pc D) := Pconsist_name_0.pc (X35 N) (Fconsist_name_0 N N) :: uconsist_name_1 N
theorem okuconsist_name_0 (N : Nat) : ∀ u ∈ uconsist_name_0 N, PcOk (X35 N) (bodyOf Try.f93) u := pc_cons ((cconsist_name_0 N N).pc (by kernel_rfl)) (okuconsist_name_1 N)
noncomputable def Pconsist_name_2 : PD D := { path := [1, 1, 0], ins := [.v 0 .str], fx := [], ks := [], exs := [⟨.normal, [.v 2 .bool], []⟩], keep := [] }
noncomputable def Fconsist_name_2 (N : Nat) : Pconsist_name_2.F := fun x => consist_name_2 N x.1
theorem cconsist_name_2 (N : Nat) : CC (X35 N) (bodyOf Try.f93) Pconsist_name_2 (Fconsist_name_2 N) := CC.of (cok35 N) (us := uconsist_name_0 N) (fun u h _ => okuconsist_name_0 N u h) (fun x => by kernel_rfl)
noncomputable def uconsist_name_2 (N : Nat) : List (Pc D) := Pconsist_name_2.pc (X35 N) (Fconsist_name_2 N) :: uconsist_name_0 N
theorem okuconsist_name_2 (N : Nat) : ∀ u ∈ uconsist_name_2 N, PcOk (X35 N) (bodyOf Try.f93) u := pc_cons ((cconsist_name_2 N).pc (by kernel_rfl)) (okuconsist_name_0 N)
noncomputable def dconsist_name : FD D := { f := 93, np := 1, ins := [.v 0 .str], fx := [], rcv := none, rk := 0, outs := [.v 2 .bool], ofx := [], rvs := [.tmp 2], flat := true }
noncomputable def Fconsist_name (N : Nat) : dconsist_name.F := fun r x => consist_name N x.1
theorem oconsist_name (N : Nat) : FOk Try.prog (X35 N) dconsist_name (Fconsist_name N) := ⟨⟨Try.f93, _, Try.func93, rfl, by kernel_rfl, by kernel_rfl, rfl, FC.of (cok35 N) (us := uconsist_name_2 N) (fun u h _ => okuconsist_name_2 N u h) (fun r x => by kernel_rfl)⟩, by kernel_rfl, by kernel_rfl, by kernel_rfl, by kernel_rfl⟩
noncomputable def fs36 (N : Nat) : List (FE D) := ⟨dconsist_name, Fconsist_name N⟩ :: fs35 N
theorem all36 (N : Nat) : ∀ y ∈ fs36 N, CallOk X0 y.d y.F := all_cons (x := ⟨dconsist_name, Fconsist_name N⟩) (oconsist_name N) (all35 N)
noncomputable def X36 (N : Nat) : Ev Try.prog D := X0.with (fs36 N)
theorem cok36 (N : Nat) : COk (X36 N) := COk.of (all36 N)
/-! ### humpyard/consist.Valid -/
noncomputable def u0_consist_Valid (N : Nat) : List (Pc D) := []
theorem oku0_consist_Valid (N : Nat) : ∀ u ∈ u0_consist_Valid N, PcOk (X36 N) (bodyOf Try.f85) u := pc_nil
noncomputable def Pconsist_Valid_0 : PD D := { path := [1, 1, 1, 1, 0, 1], ins := [.o 1 (.box 53), .v 5 (.int .i64), .v 16 .bool], fx := [(1, .box 0 0)], ks := [1], exs := [⟨.normal, [.v 5 (.int .i64)], []⟩], keep := [1, 3] }
noncomputable def Fconsist_Valid_0 (N : Nat) : Pconsist_Valid_0.F := fun x => consist_Valid_0 N x.2.1 x.2.2.1
theorem cconsist_Valid_0 (N : Nat) : CC (X36 N) (bodyOf Try.f85) Pconsist_Valid_0 (Fconsist_Valid_0 N) := CC.of (cok36 N) (us := u0_consist_Valid N) (fun u h _ => oku0_consist_Valid N u h) (fun x => by kernel_rfl)
noncomputable def uconsist_Valid_0 (N : Nat) : List (Pc D) := Pconsist_Valid_0.pc (X36 N) (Fconsist_Valid_0 N) :: u0_consist_Valid N
theorem okuconsist_Valid_0 (N : Nat) : ∀ u ∈ uconsist_Valid_0 N, PcOk (X36 N) (bodyOf Try.f85) u := pc_cons ((cconsist_Valid_0 N).pc (by kernel_rfl)) (oku0_consist_Valid N)
noncomputable def Pconsist_Valid_1 : PD D := { path := [1, 1, 1, 1, 1, 0, 0, 1, 1, 0], ins := [.o 1 (.box 53), .v 5 (.int .i64)], fx := [(1, .box 0 0)], ks := [1], exs := [⟨.normal, [.v 23 .bool], []⟩], keep := [1] }
noncomputable def Fconsist_Valid_1 (N : Nat) : Pconsist_Valid_1.F := fun x => consist_Valid_1 N x.1 x.2.1
theorem cconsist_Valid_1 (N : Nat) : CC (X36 N) (bodyOf Try.f85) Pconsist_Valid_1 (Fconsist_Valid_1 N) := CC.of (cok36 N) (us := uconsist_Valid_0 N) (fun u h _ => okuconsist_Valid_0 N u h) (fun x => by kernel_rfl)
noncomputable def uconsist_Valid_1 (N : Nat) : List (Pc D) := Pconsist_Valid_1.pc (X36 N) (Fconsist_Valid_1 N) :: uconsist_Valid_0 N
theorem okuconsist_Valid_1 (N : Nat) : ∀ u ∈ uconsist_Valid_1 N, PcOk (X36 N) (bodyOf Try.f85) u := pc_cons ((cconsist_Valid_1 N).pc (by kernel_rfl)) (okuconsist_Valid_0 N)
noncomputable def Pconsist_Valid_2 : PD D := { path := [1, 1, 1, 1, 1, 0, 0, 1, 1, 1, 1, 0], ins := [.o 1 (.box 53)], fx := [(1, .box 0 0)], ks := [1], exs := [⟨.normal, [.v 43 .bool], []⟩], keep := [1] }
noncomputable def Fconsist_Valid_2 (N : Nat) : Pconsist_Valid_2.F := fun x => consist_Valid_2 N x.1
theorem cconsist_Valid_2 (N : Nat) : CC (X36 N) (bodyOf Try.f85) Pconsist_Valid_2 (Fconsist_Valid_2 N) := CC.of (cok36 N) (us := uconsist_Valid_1 N) (fun u h _ => okuconsist_Valid_1 N u h) (fun x => by kernel_rfl)
noncomputable def uconsist_Valid_2 (N : Nat) : List (Pc D) := Pconsist_Valid_2.pc (X36 N) (Fconsist_Valid_2 N) :: uconsist_Valid_1 N
theorem okuconsist_Valid_2 (N : Nat) : ∀ u ∈ uconsist_Valid_2 N, PcOk (X36 N) (bodyOf Try.f85) u := pc_cons ((cconsist_Valid_2 N).pc (by kernel_rfl)) (okuconsist_Valid_1 N)
noncomputable def dconsist_Valid : FD D := { f := 85, np := 1, ins := [.v 0 (.agg 53)], fx := [], rcv := none, rk := 0, outs := [.v 2 (.int .i64)], ofx := [], rvs := [.tmp 2], flat := true }
noncomputable def Fconsist_Valid (N : Nat) : dconsist_Valid.F := fun r x => consist_Valid N x.1
theorem oconsist_Valid (N : Nat) : FOk Try.prog (X36 N) dconsist_Valid (Fconsist_Valid N) := ⟨⟨Try.f85, _, Try.func85, rfl, by kernel_rfl, by kernel_rfl, rfl, FC.of (cok36 N) (us := uconsist_Valid_2 N) (fun u h _ => okuconsist_Valid_2 N u h) (fun r x => by kernel_rfl)⟩, by kernel_rfl, by kernel_rfl, by kernel_rfl, by kernel_rfl⟩
noncomputable def fs37 (N : Nat) : List (FE D) := ⟨dconsist_Valid, Fconsist_Valid N⟩ :: fs36 N
theorem all37 (N : Nat) : ∀ y ∈ fs37 N, CallOk X0 y.d y.F := all_cons (x := ⟨dconsist_Valid, Fconsist_Valid N⟩) (oconsist_Valid N) (all36 N)
noncomputable def X37 (N : Nat) : Ev Try.prog D := X0.with (fs37 N)
theorem cok37 (N : Nat) : COk (X37 N) := COk.of (all37 N)
/-! ### humpyard/consist.check -/
noncomputable def u0_consist_check (N : Nat) : List (Pc D) := []
theorem oku0_consist_check (N : Nat) : ∀ u ∈ u0_consist_check N, PcOk (X37 N) (bodyOf Try.f59) u := pc_nil
noncomputable def Pconsist_check_0 : PD D := { path := [1, 1, 1, 0, 1, 0], ins := [.o 3 (.map 104 9 4), .v 11 (.sl 53), .v 12 (.int .i64), .v 13 (.int .i64)], fx := [(3, .c (.own 0))], ks := [0], exs := [⟨.exit 0, [], []⟩, ⟨.ret, [.v 2 (.int .i64)], []⟩], keep := [] }
noncomputable def Fconsist_check_0 (N n : Nat) : Pconsist_check_0.F := fun x => consist_check_0 N x.2.1 x.2.2.1 n x.1 x.2.2.2.1
theorem cconsist_check_0 (N n : Nat) : CC (X37 N) (bodyOf Try.f59) Pconsist_check_0 (Fconsist_check_0 N n) := CC.loop (cok37 N) (us := u0_consist_check N) (c := sub (bodyOf Try.f59) [1, 1, 1, 0, 1, 0, 0]) (by kernel_rfl) (by kernel_rfl) (fun u h _ => oku0_consist_check N u h) (fun x => rfl) (fun n x => by kernel_rfl) n
noncomputable def uconsist_check_0 (N : Nat) : List (Pc D) := Pconsist_check_0.pc (X37 N) (Fconsist_check_0 N N) :: u0_consist_check N
theorem okuconsist_check_0 (N : Nat) : ∀ u ∈ uconsist_check_0 N, PcOk (X37 N) (bodyOf Try.f59) u := pc_cons ((cconsist_check_0 N N).pc (by kernel_rfl)) (oku0_consist_check N)
noncomputable def dconsist_check : FD D := { f := 59, np := 1, ins := [.v 0 (.sl 53)], fx := [], rcv := none, rk := 0, outs := [.v 2 (.int .i64)], ofx := [], rvs := [.tmp 2], flat := true }
noncomputable def Fconsist_check (N : Nat) : dconsist_check.F := fun r x => consist_check N x.1
theorem oconsist_check (N : Nat) : FOk Try.prog (X37 N) dconsist_check (Fconsist_check N) := ⟨⟨Try.f59, _, Try.func59, rfl, by kernel_rfl, by kernel_rfl, rfl, FC.of (cok37 N) (us := uconsist_check_0 N) (fun u h _ => okuconsist_check_0 N u h) (fun r x => by kernel_rfl)⟩, by kernel_rfl, by kernel_rfl, by kernel_rfl, by kernel_rfl⟩
noncomputable def fs38 (N : Nat) : List (FE D) := ⟨dconsist_check, Fconsist_check N⟩ :: fs37 N
theorem all38 (N : Nat) : ∀ y ∈ fs38 N, CallOk X0 y.d y.F := all_cons (x := ⟨dconsist_check, Fconsist_check N⟩) (oconsist_check N) (all37 N)
noncomputable def X38 (N : Nat) : Ev Try.prog D := X0.with (fs38 N)
theorem cok38 (N : Nat) : COk (X38 N) := COk.of (all38 N)
/-! ### humpyard/consist.Total -/
noncomputable def u0_consist_Total (N : Nat) : List (Pc D) := []
theorem oku0_consist_Total (N : Nat) : ∀ u ∈ u0_consist_Total N, PcOk (X38 N) (bodyOf Try.f38) u := pc_nil
noncomputable def Pconsist_Total_0 : PD D := { path := [1, 1, 0, 1, 0], ins := [.v 2 (.int .i64), .v 3 (.int .i64), .v 4 (.int .i64), .v 14 (.sl 53), .v 15 (.int .i64), .v 16 (.int .i64)], fx := [], ks := [], exs := [⟨.exit 0, [.v 2 (.int .i64), .v 3 (.int .i64), .v 4 (.int .i64)], []⟩], keep := [] }
noncomputable def Fconsist_Total_0 (N n : Nat) : Pconsist_Total_0.F := fun x => consist_Total_0 N x.2.2.2.1 x.2.2.2.2.1 n x.1 x.2.1 x.2.2.1 x.2.2.2.2.2.1
theorem cconsist_Total_0 (N n : Nat) : CC (X38 N) (bodyOf Try.f38) Pconsist_Total_0 (Fconsist_Total_0 N n) := CC.loop (cok38 N) (us := u0_consist_Total N) (c := sub (bodyOf Try.f38) [1, 1, 0, 1, 0, 0]) (by kernel_rfl) (by kernel_rfl) (fun u h _ => oku0_consist_Total N u h) (fun x => rfl) (fun n x => by kernel_rfl) n
noncomputable def uconsist_Total_0 (N : Nat) : List (Pc D) := Pconsist_Total_0.pc (X38 N) (Fconsist_Total_0 N N) :: u0_consist_Total N
theorem okuconsist_Total_0 (N : Nat) : ∀ u ∈ uconsist_Total_0 N, PcOk (X38 N) (bodyOf Try.f38) u := pc_cons ((cconsist_Total_0 N N).pc (by kernel_rfl)) (oku0_consist_Total N)
noncomputable def dconsist_Total : FD D := { f := 38, np := 1, ins := [.v 0 (.sl 53)], fx := [], rcv := none, rk := 0, outs := [.v 2 (.int .i64), .v 3 (.int .i64), .v 4 (.int .i64), .v 5 (.int .i64)], ofx := [], rvs := [.tmp 2, .tmp 3, .tmp 4, .tmp 5], flat := true }
noncomputable def Fconsist_Total (N : Nat) : dconsist_Total.F := fun r x => consist_Total N x.1
theorem oconsist_Total (N : Nat) : FOk Try.prog (X38 N) dconsist_Total (Fconsist_Total N) := ⟨⟨Try.f38, _, Try.func38, rfl, by kernel_rfl, by kernel_rfl, rfl, FC.of (cok38 N) (us := uconsist_Total_0 N) (fun u h _ => okuconsist_Total_0 N u h) (fun r x => by kernel_rfl)⟩, by kernel_rfl, by kernel_rfl, by kernel_rfl, by kernel_rfl⟩
noncomputable def fs39 (N : Nat) : List (FE D) := ⟨dconsist_Total, Fconsist_Total N⟩ :: fs38 N
theorem all39 (N : Nat) : ∀ y ∈ fs39 N, CallOk X0 y.d y.F := all_cons (x := ⟨dconsist_Total, Fconsist_Total N⟩) (oconsist_Total N) (all38 N)
noncomputable def X39 (N : Nat) : Ev Try.prog D := X0.with (fs39 N)
theorem cok39 (N : Nat) : COk (X39 N) := COk.of (all39 N)
/-! ### humpyard/trainbuild.check -/
noncomputable def u0_trainbuild_check (N : Nat) : List (Pc D) := []
theorem oku0_trainbuild_check (N : Nat) : ∀ u ∈ u0_trainbuild_check N, PcOk (X39 N) (bodyOf Try.f19) u := pc_nil
noncomputable def dtrainbuild_check : FD D := { f := 19, np := 3, ins := [.v 0 (.agg 29), .v 1 (.agg 32), .v 2 (.sl 53)], fx := [], rcv := none, rk := 0, outs := [.v 6 (.int .i64)], ofx := [], rvs := [.tmp 6], flat := true }
noncomputable def Ftrainbuild_check (N : Nat) : dtrainbuild_check.F := fun r x => trainbuild_check N x.1 x.2.1 x.2.2.1
theorem otrainbuild_check (N : Nat) : FOk Try.prog (X39 N) dtrainbuild_check (Ftrainbuild_check N) := ⟨⟨Try.f19, _, Try.func19, rfl, by kernel_rfl, by kernel_rfl, rfl, FC.of (cok39 N) (us := u0_trainbuild_check N) (fun u h _ => oku0_trainbuild_check N u h) (fun r x => by kernel_rfl)⟩, by kernel_rfl, by kernel_rfl, by kernel_rfl, by kernel_rfl⟩
noncomputable def fs40 (N : Nat) : List (FE D) := ⟨dtrainbuild_check, Ftrainbuild_check N⟩ :: fs39 N
theorem all40 (N : Nat) : ∀ y ∈ fs40 N, CallOk X0 y.d y.F := all_cons (x := ⟨dtrainbuild_check, Ftrainbuild_check N⟩) (otrainbuild_check N) (all39 N)
noncomputable def X40 (N : Nat) : Ev Try.prog D := X0.with (fs40 N)
theorem cok40 (N : Nat) : COk (X40 N) := COk.of (all40 N)
/-! ### humpyard/trainbuild.Blocks -/
noncomputable def u0_trainbuild_Blocks (N : Nat) : List (Pc D) := []
theorem oku0_trainbuild_Blocks (N : Nat) : ∀ u ∈ u0_trainbuild_Blocks N, PcOk (X40 N) (bodyOf Try.f39) u := pc_nil
noncomputable def Ptrainbuild_Blocks_0 : PD D := { path := [1, 1, 0, 1, 0], ins := [.o 2 (.box 32), .o 7 (.sl 3), .v 11 (.sl 53), .v 12 (.int .i64), .v 13 (.int .i64)], fx := [(2, .box 0 0), (7, .c (.own 1))], ks := [1, 0], exs := [⟨.exit 0, [.o 7 (.sl 3)], [(7, .c (.own 2))]⟩, ⟨.ret, [.v 5 (.int .i64), .v 6 (.int .i64)], [(4, .c .nilS)]⟩], keep := [] }
noncomputable def Ftrainbuild_Blocks_0 (N n : Nat) : Ptrainbuild_Blocks_0.F := fun x => trainbuild_Blocks_0 N x.1 x.2.2.1 x.2.2.2.1 n x.2.1 x.2.2.2.2.1
theorem ctrainbuild_Blocks_0 (N n : Nat) : CC (X40 N) (bodyOf Try.f39) Ptrainbuild_Blocks_0 (Ftrainbuild_Blocks_0 N n) := CC.loop (cok40 N) (us := u0_trainbuild_Blocks N) (c := sub (bodyOf Try.f39) [1, 1, 0, 1, 0, 0]) (by kernel_rfl) (by kernel_rfl) (fun u h _ => oku0_trainbuild_Blocks N u h) (fun x => rfl) (fun n x => by kernel_rfl) n
noncomputable def utrainbuild_Blocks_0 (N : Nat) : List (Pc D) := Ptrainbuild_Blocks_0.pc (X40 N) (Ftrainbuild_Blocks_0 N N) :: u0_trainbuild_Blocks N
theorem okutrainbuild_Blocks_0 (N : Nat) : ∀ u ∈ utrainbuild_Blocks_0 N, PcOk (X40 N) (bodyOf Try.f39) u := pc_cons ((ctrainbuild_Blocks_0 N N).pc (by kernel_rfl)) (oku0_trainbuild_Blocks N)
noncomputable def dtrainbuild_Blocks : FD D := { f := 39, np := 2, ins := [.v 0 (.agg 32), .v 1 (.sl 53)], fx := [], rcv := none, rk := 0, outs := [.o 4 (.sl 3), .v 5 (.int .i64), .v 6 (.int .i64)], ofx := [(4, .c (.own 0))], rvs := [.tmp 4, .tmp 5, .tmp 6], flat := false }
noncomputable def Ftrainbuild_Blocks (N : Nat) : dtrainbuild_Blocks.F := fun r x => trainbuild_Blocks N x.1 x.2.1
theorem otrainbuild_Blocks (N : Nat) : FOk Try.prog (X40 N) dtrainbuild_Blocks (Ftrainbuild_Blocks N) := ⟨⟨Try.f39, _, Try.func39, rfl, by kernel_rfl, by kernel_rfl, rfl, FC.of (cok40 N) (us := utrainbuild_Blocks_0 N) (fun u h _ => okutrainbuild_Blocks_0 N u h) (fun r x => by kernel_rfl)⟩, by kernel_rfl, by kernel_rfl, by kernel_rfl, by kernel_rfl⟩
noncomputable def fs41 (N : Nat) : List (FE D) := ⟨dtrainbuild_Blocks, Ftrainbuild_Blocks N⟩ :: fs40 N
theorem all41 (N : Nat) : ∀ y ∈ fs41 N, CallOk X0 y.d y.F := all_cons (x := ⟨dtrainbuild_Blocks, Ftrainbuild_Blocks N⟩) (otrainbuild_Blocks N) (all40 N)
noncomputable def X41 (N : Nat) : Ev Try.prog D := X0.with (fs41 N)
theorem cok41 (N : Nat) : COk (X41 N) := COk.of (all41 N)
/-! ### humpyard/trainbuild.ordered -/
noncomputable def u0_trainbuild_ordered (N : Nat) : List (Pc D) := []
theorem oku0_trainbuild_ordered (N : Nat) : ∀ u ∈ u0_trainbuild_ordered N, PcOk (X41 N) (bodyOf Try.f20) u := pc_nil
noncomputable def Ptrainbuild_ordered_1 : PD D := { path := [1, 1, 1, 0, 1, 0, 0, 1, 1, 0, 0, 1, 0], ins := [.o 7 (.sl 3), .v 10 (.int .i64)], fx := [(7, .c (.own 0))], ks := [1], exs := [⟨.normal, [.v 40 .bool], []⟩], keep := [7, 10, 23, 24] }
noncomputable def Ftrainbuild_ordered_1 (N : Nat) : Ptrainbuild_ordered_1.F := fun x => trainbuild_ordered_1 N x.1 x.2.1
theorem ctrainbuild_ordered_1 (N : Nat) : CC (X41 N) (bodyOf Try.f20) Ptrainbuild_ordered_1 (Ftrainbuild_ordered_1 N) := CC.of (cok41 N) (us := u0_trainbuild_ordered N) (fun u h _ => oku0_trainbuild_ordered N u h) (fun x => by kernel_rfl)
noncomputable def utrainbuild_ordered_1 (N : Nat) : List (Pc D) := Ptrainbuild_ordered_1.pc (X41 N) (Ftrainbuild_ordered_1 N) :: u0_trainbuild_ordered N
theorem okutrainbuild_ordered_1 (N : Nat) : ∀ u ∈ utrainbuild_ordered_1 N, PcOk (X41 N) (bodyOf Try.f20) u := pc_cons ((ctrainbuild_ordered_1 N).pc (by kernel_rfl)) (oku0_trainbuild_ordered N)
noncomputable def Ptrainbuild_ordered_0 : PD D := { path := [1, 1, 1, 0, 1, 0], ins := [.o 7 (.sl 3), .v 23 (.int .i64), .v 24 (.int .i64)], fx := [(7, .c (.own 0))], ks := [1], exs := [⟨.exit 0, [], []⟩, ⟨.ret, [.v 5 (.int .i64), .v 6 (.int .i64)], [(4, .c .nilS)]⟩], keep := [7] }
noncomputable def Ftrainbuild_ordered_0 (N n : Nat) : Ptrainbuild_ordered_0.F := fun x => trainbuild_ordered_0 N x.1 x.2.1 n x.2.2.1
theorem ctrainbuild_ordered_0 (N n : Nat) : CC (X41 N) (bodyOf Try.f20) Ptrainbuild_ordered_0 (Ftrainbuild_ordered_0 N n) := CC.loop (cok41 N) (us := utrainbuild_ordered_1 N) (c := sub (bodyOf Try.f20) [1, 1, 1, 0, 1, 0, 0]) (by kernel_rfl) (by kernel_rfl) (fun u h _ => okutrainbuild_ordered_1 N u h) (fun x => rfl) (fun n x => by kernel_rfl) n
noncomputable def utrainbuild_ordered_0 (N : Nat) : List (Pc D) := Ptrainbuild_ordered_0.pc (X41 N) (Ftrainbuild_ordered_0 N N) :: utrainbuild_ordered_1 N
theorem okutrainbuild_ordered_0 (N : Nat) : ∀ u ∈ utrainbuild_ordered_0 N, PcOk (X41 N) (bodyOf Try.f20) u := pc_cons ((ctrainbuild_ordered_0 N N).pc (by kernel_rfl)) (okutrainbuild_ordered_1 N)
noncomputable def dtrainbuild_ordered : FD D := { f := 20, np := 2, ins := [.v 0 (.agg 32), .v 1 (.sl 53)], fx := [], rcv := none, rk := 0, outs := [.o 4 (.sl 3), .v 5 (.int .i64), .v 6 (.int .i64)], ofx := [(4, .c (.own 0))], rvs := [.tmp 4, .tmp 5, .tmp 6], flat := false }
noncomputable def Ftrainbuild_ordered (N : Nat) : dtrainbuild_ordered.F := fun r x => trainbuild_ordered N x.1 x.2.1
theorem otrainbuild_ordered (N : Nat) : FOk Try.prog (X41 N) dtrainbuild_ordered (Ftrainbuild_ordered N) := ⟨⟨Try.f20, _, Try.func20, rfl, by kernel_rfl, by kernel_rfl, rfl, FC.of (cok41 N) (us := utrainbuild_ordered_0 N) (fun u h _ => okutrainbuild_ordered_0 N u h) (fun r x => by kernel_rfl)⟩, by kernel_rfl, by kernel_rfl, by kernel_rfl, by kernel_rfl⟩
noncomputable def fs42 (N : Nat) : List (FE D) := ⟨dtrainbuild_ordered, Ftrainbuild_ordered N⟩ :: fs41 N
theorem all42 (N : Nat) : ∀ y ∈ fs42 N, CallOk X0 y.d y.F := all_cons (x := ⟨dtrainbuild_ordered, Ftrainbuild_ordered N⟩) (otrainbuild_ordered N) (all41 N)
noncomputable def X42 (N : Nat) : Ev Try.prog D := X0.with (fs42 N)
theorem cok42 (N : Nat) : COk (X42 N) := COk.of (all42 N)
/-! ### humpyard/brake.Factor -/
noncomputable def u0_brake_Factor (N : Nat) : List (Pc D) := []
theorem oku0_brake_Factor (N : Nat) : ∀ u ∈ u0_brake_Factor N, PcOk (X42 N) (bodyOf Try.f62) u := pc_nil
noncomputable def dbrake_Factor : FD D := { f := 62, np := 1, ins := [.v 0 (.int .i64)], fx := [], rcv := none, rk := 0, outs := [.v 2 (.int .i64)], ofx := [], rvs := [.tmp 2], flat := true }
noncomputable def Fbrake_Factor (N : Nat) : dbrake_Factor.F := fun r x => brake_Factor N x.1
theorem obrake_Factor (N : Nat) : FOk Try.prog (X42 N) dbrake_Factor (Fbrake_Factor N) := ⟨⟨Try.f62, _, Try.func62, rfl, by kernel_rfl, by kernel_rfl, rfl, FC.of (cok42 N) (us := u0_brake_Factor N) (fun u h _ => oku0_brake_Factor N u h) (fun r x => by kernel_rfl)⟩, by kernel_rfl, by kernel_rfl, by kernel_rfl, by kernel_rfl⟩
noncomputable def fs43 (N : Nat) : List (FE D) := ⟨dbrake_Factor, Fbrake_Factor N⟩ :: fs42 N
theorem all43 (N : Nat) : ∀ y ∈ fs43 N, CallOk X0 y.d y.F := all_cons (x := ⟨dbrake_Factor, Fbrake_Factor N⟩) (obrake_Factor N) (all42 N)
noncomputable def X43 (N : Nat) : Ev Try.prog D := X0.with (fs43 N)
theorem cok43 (N : Nat) : COk (X43 N) := COk.of (all43 N)
/-! ### humpyard/brake.Total -/
noncomputable def u0_brake_Total (N : Nat) : List (Pc D) := []
theorem oku0_brake_Total (N : Nat) : ∀ u ∈ u0_brake_Total N, PcOk (X43 N) (bodyOf Try.f40) u := pc_nil
noncomputable def Pbrake_Total_0 : PD D := { path := [1, 1, 1, 1, 0, 1, 0], ins := [.v 0 (.sl 53), .o 4 (.box 37), .o 10 (.sl 4), .v 32 (.sl 3), .v 33 (.int .i64), .v 34 (.int .i64)], fx := [(4, .box 0 0), (10, .c (.own 1))], ks := [2, 1], exs := [⟨.exit 0, [.u 0 (.box 37)], []⟩, ⟨.ret, [.u 0 (.box 37), .v 5 (.int .i64)], []⟩], keep := [0, 1, 4, 6, 7, 8, 10] }
noncomputable def Fbrake_Total_0 (N n : Nat) : Pbrake_Total_0.F := fun x => brake_Total_0 N x.1 x.2.2.2.1 x.2.2.2.2.1 n x.2.1 x.2.2.2.2.2.1
theorem cbrake_Total_0 (N n : Nat) : CC (X43 N) (bodyOf Try.f40) Pbrake_Total_0 (Fbrake_Total_0 N n) := CC.loop (cok43 N) (us := u0_brake_Total N) (c := sub (bodyOf Try.f40) [1, 1, 1, 1, 0, 1, 0, 0]) (by kernel_rfl) (by kernel_rfl) (fun u h _ => oku0_brake_Total N u h) (fun x => rfl) (fun n x => by kernel_rfl) n
noncomputable def ubrake_Total_0 (N : Nat) : List (Pc D) := Pbrake_Total_0.pc (X43 N) (Fbrake_Total_0 N N) :: u0_brake_Total N
theorem okubrake_Total_0 (N : Nat) : ∀ u ∈ ubrake_Total_0 N, PcOk (X43 N) (bodyOf Try.f40) u := pc_cons ((cbrake_Total_0 N N).pc (by kernel_rfl)) (oku0_brake_Total N)
noncomputable def Pbrake_Total_1 : PD D := { path := [1, 1, 1, 1, 1, 0, 1, 0], ins := [.o 4 (.box 37), .o 10 (.sl 4), .v 46 (.sl 3), .v 47 (.int .i64), .v 48 (.int .i64)], fx := [(4, .box 0 0), (10, .c (.own 1))], ks := [2, 2], exs := [⟨.exit 2, [.u 0 (.box 37), .u 1 (.sl 4)], []⟩, ⟨.ret, [.u 0 (.box 37), .v 5 (.int .i64)], []⟩], keep := [0, 4, 6, 7, 8, 10] }
noncomputable def Fbrake_Total_1 (N n : Nat) : Pbrake_Total_1.F := fun x => brake_Total_1 N x.2.2.1 x.2.2.2.1 n x.1 x.2.1 x.2.2.2.2.1
theorem cbrake_Total_1 (N n : Nat) : CC (X43 N) (bodyOf Try.f40) Pbrake_Total_1 (Fbrake_Total_1 N n) := CC.loop (cok43 N) (us := ubrake_Total_0 N) (c := sub (bodyOf Try.f40) [1, 1, 1, 1, 1, 0, 1, 0, 0]) (by kernel_rfl) (by kernel_rfl) (fun u h _ => okubrake_Total_0 N u h) (fun x => rfl) (fun n x => by kernel_rfl) n
noncomputable def ubrake_Total_1 (N : Nat) : List (Pc D) := Pbrake_Total_1.pc (X43 N) (Fbrake_Total_1 N N) :: ubrake_Total_0 N
theorem okubrake_Total_1 (N : Nat) : ∀ u ∈ ubrake_Total_1 N, PcOk (X43 N) (bodyOf Try.f40) u := pc_cons ((cbrake_Total_1 N N).pc (by kernel_rfl)) (okubrake_Total_0 N)
noncomputable def Pbrake_Total_3 : PD D := { path := [1, 1, 1, 1, 1, 1, 1, 0, 1, 0, 0, 1, 1, 0], ins := [.o 4 (.box 37), .o 10 (.sl 4), .o 15 (.box 37), .v 65 (.sl 53), .v 67 (.int .i64)], fx := [(4, .box 0 0), (10, .c (.own 1)), (15, .box 2 0)], ks := [1, 1, 2], exs := [⟨.normal, [.u 2 (.box 37)], []⟩], keep := [4, 6, 7, 10, 15, 65, 66, 67] }
noncomputable def Fbrake_Total_3 (N : Nat) : Pbrake_Total_3.F := fun x => brake_Total_3 N x.2.1 x.2.2.1 x.2.2.2.1 x.2.2.2.2.1
theorem cbrake_Total_3 (N : Nat) : CC (X43 N) (bodyOf Try.f40) Pbrake_Total_3 (Fbrake_Total_3 N) := CC.of (cok43 N) (us := ubrake_Total_1 N) (fun u h _ => okubrake_Total_1 N u h) (fun x => by kernel_rfl)
noncomputable def ubrake_Total_3 (N : Nat) : List (Pc D) := Pbrake_Total_3.pc (X43 N) (Fbrake_Total_3 N) :: ubrake_Total_1 N
theorem okubrake_Total_3 (N : Nat) : ∀ u ∈ ubrake_Total_3 N, PcOk (X43 N) (bodyOf Try.f40) u := pc_cons ((cbrake_Total_3 N).pc (by kernel_rfl)) (okubrake_Total_1 N)
noncomputable def Pbrake_Total_2 : PD D := { path := [1, 1, 1, 1, 1, 1, 1, 0, 1, 0], ins := [.o 4 (.box 37), .o 10 (.sl 4), .o 15 (.box 37), .v 65 (.sl 53), .v 66 (.int .i64), .v 67 (.int .i64)], fx := [(4, .box 0 0), (10, .c (.own 1)), (15, .box 2 0)], ks := [1, 1, 2], exs := [⟨.exit 4, [.u 2 (.box 37)], []⟩], keep := [4, 6, 7, 15] }
noncomputable def Fbrake_Total_2 (N n : Nat) : Pbrake_Total_2.F := fun x => brake_Total_2 N x.2.1 x.2.2.2.1 x.2.2.2.2.1 n x.2.2.1 x.2.2.2.2.2.1
theorem cbrake_Total_2 (N n : Nat) : CC (X43 N) (bodyOf Try.f40) Pbrake_Total_2 (Fbrake_Total_2 N n) := CC.loop (cok43 N) (us := ubrake_Total_3 N) (c := sub (bodyOf Try.f40) [1, 1, 1, 1, 1, 1, 1, 0, 1, 0, 0]) (by kernel_rfl) (by kernel_rfl) (fun u h _ => okubrake_Total_3 N u h) (fun x => rfl) (fun n x => by kernel_rfl) n
noncomputable def ubrake_Total_2 (N : Nat) : List (Pc D) := Pbrake_Total_2.pc (X43 N) (Fbrake_Total_2 N N) :: ubrake_Total_3 N
theorem okubrake_Total_2 (N : Nat) : ∀ u ∈ ubrake_Total_2 N, PcOk (X43 N) (bodyOf Try.f40) u := pc_cons ((cbrake_Total_2 N N).pc (by kernel_rfl)) (okubrake_Total_3 N)
noncomputable def Pbrake_Total_4 : PD D := { path := [1, 1, 1, 1, 1, 1, 1, 1, 1, 0, 1], ins := [.o 4 (.box 37), .v 7 (.int .i64), .o 15 (.box 37), .v 92 .bool], fx := [(4, .box 0 0), (15, .box 1 0)], ks := [1, 2], exs := [⟨.normal, [.u 1 (.box 37)], []⟩], keep := [4, 15] }
noncomputable def Fbrake_Total_4 (N : Nat) : Pbrake_Total_4.F := fun x => brake_Total_4 N x.2.1 x.2.2.1 x.2.2.2.1
theorem cbrake_Total_4 (N : Nat) : CC (X43 N) (bodyOf Try.f40) Pbrake_Total_4 (Fbrake_Total_4 N) := CC.of (cok43 N) (us := ubrake_Total_2 N) (fun u h _ => okubrake_Total_2 N u h) (fun x => by kernel_rfl)
noncomputable def ubrake_Total_4 (N : Nat) : List (Pc D) := Pbrake_Total_4.pc (X43 N) (Fbrake_Total_4 N) :: ubrake_Total_2 N
theorem okubrake_Total_4 (N : Nat) : ∀ u ∈ ubrake_Total_4 N, PcOk (X43 N) (bodyOf Try.f40) u := pc_cons ((cbrake_Total_4 N).pc (by kernel_rfl)) (okubrake_Total_2 N)
noncomputable def dbrake_Total : FD D := { f := 40, np := 2, ins := [.v 0 (.sl 53), .v 1 (.sl 3)], fx := [], rcv := none, rk := 0, outs := [.v 1000000 (.agg 37), .v 5 (.int .i64)], ofx := [], rvs := [.cell 4 37, .tmp 5], flat := true }
noncomputable def Fbrake_Total (N : Nat) : dbrake_Total.F := fun r x => brake_Total N x.1 x.2.1
theorem obrake_Total (N : Nat) : FOk Try.prog (X43 N) dbrake_Total (Fbrake_Total N) := ⟨⟨Try.f40, _, Try.func40, rfl, by kernel_rfl, by kernel_rfl, rfl, FC.of (cok43 N) (us := ubrake_Total_4 N) (fun u h _ => okubrake_Total_4 N u h) (fun r x => by kernel_rfl)⟩, by kernel_rfl, by kernel_rfl, by kernel_rfl, by kernel_rfl⟩
noncomputable def fs44 (N : Nat) : List (FE D) := ⟨dbrake_Total, Fbrake_Total N⟩ :: fs43 N
theorem all44 (N : Nat) : ∀ y ∈ fs44 N, CallOk X0 y.d y.F := all_cons (x := ⟨dbrake_Total, Fbrake_Total N⟩) (obrake_Total N) (all43 N)
noncomputable def X44 (N : Nat) : Ev Try.prog D := X0.with (fs44 N)
theorem cok44 (N : Nat) : COk (X44 N) := COk.of (all44 N)
/-! ### humpyard/brake.required -/
noncomputable def u0_brake_required (N : Nat) : List (Pc D) := []
theorem oku0_brake_required (N : Nat) : ∀ u ∈ u0_brake_required N, PcOk (X44 N) (bodyOf Try.f63) u := pc_nil
noncomputable def Pbrake_required_2 : PD D := { path := [1, 1, 0, 1, 0, 0, 1, 1, 0, 0, 1, 0], ins := [.v 1 (.int .i64), .v 2 (.int .i64), .v 8 (.int .i64), .v 9 .bool, .o 11 (.box 72)], fx := [(11, .box 0 0)], ks := [1], exs := [⟨.normal, [.v 37 .bool], []⟩], keep := [1, 2, 8, 9, 11, 12, 13, 14] }
noncomputable def Fbrake_required_2 (N : Nat) : Pbrake_required_2.F := fun x => brake_required_2 N x.1 x.2.1 x.2.2.1 x.2.2.2.1 x.2.2.2.2.1
theorem cbrake_required_2 (N : Nat) : CC (X44 N) (bodyOf Try.f63) Pbrake_required_2 (Fbrake_required_2 N) := CC.of (cok44 N) (us := u0_brake_required N) (fun u h _ => oku0_brake_required N u h) (fun x => by kernel_rfl)
noncomputable def ubrake_required_2 (N : Nat) : List (Pc D) := Pbrake_required_2.pc (X44 N) (Fbrake_required_2 N) :: u0_brake_required N
theorem okubrake_required_2 (N : Nat) : ∀ u ∈ ubrake_required_2 N, PcOk (X44 N) (bodyOf Try.f63) u := pc_cons ((cbrake_required_2 N).pc (by kernel_rfl)) (oku0_brake_required N)
noncomputable def Pbrake_required_1 : PD D := { path := [1, 1, 0, 1, 0, 0, 1, 1, 0], ins := [.v 1 (.int .i64), .v 2 (.int .i64), .v 8 (.int .i64), .v 9 .bool, .v 12 (.sl 72), .v 14 (.int .i64)], fx := [], ks := [], exs := [⟨.normal, [.v 8 (.int .i64), .v 9 .bool], []⟩], keep := [1, 2, 12, 13, 14] }
noncomputable def Fbrake_required_1 (N : Nat) : Pbrake_required_1.F := fun x => brake_required_1 N x.1 x.2.1 x.2.2.1 x.2.2.2.1 x.2.2.2.2.1 x.2.2.2.2.2.1
theorem cbrake_required_1 (N : Nat) : CC (X44 N) (bodyOf Try.f63) Pbrake_required_1 (Fbrake_required_1 N) := CC.of (cok44 N) (us := ubrake_required_2 N) (fun u h _ => okubrake_required_2 N u h) (fun x => by kernel_rfl)
noncomputable def ubrake_required_1 (N : Nat) : List (Pc D) := Pbrake_required_1.pc (X44 N) (Fbrake_required_1 N) :: ubrake_required_2 N
theorem okubrake_required_1 (N : Nat) : ∀ u ∈ ubrake_required_1 N, PcOk (X44 N) (bodyOf Try.f63) u := pc_cons ((cbrake_required_1 N).pc (by kernel_rfl)) (okubrake_required_2 N)
noncomputable def Pbrake_required_0 : PD D := { path := [1, 1, 0, 1, 0], ins := [.v 1 (.int .i64), .v 2 (.int .i64), .v 8 (.int .i64), .v 9 .bool, .v 12 (.sl 72), .v 13 (.int .i64), .v 14 (.int .i64)], fx := [], ks := [], exs := [⟨.exit 0, [.v 8 (.int .i64), .v 9 .bool], []⟩], keep := [] }
noncomputable def Fbrake_required_0 (N n : Nat) : Pbrake_required_0.F := fun x => brake_required_0 N x.1 x.2.1 x.2.2.2.2.1 x.2.2.2.2.2.1 n x.2.2.1 x.2.2.2.1 x.2.2.2.2.2.2.1
theorem cbrake_required_0 (N n : Nat) : CC (X44 N) (bodyOf Try.f63) Pbrake_required_0 (Fbrake_required_0 N n) := CC.loop (cok44 N) (us := ubrake_required_1 N) (c := sub (bodyOf Try.f63) [1, 1, 0, 1, 0, 0]) (by kernel_rfl) (by kernel_rfl) (fun u h _ => okubrake_required_1 N u h) (fun x => rfl) (fun n x => by kernel_rfl) n
noncomputable def ubrake_required_0 (N : Nat) : List (Pc D) := Pbrake_required_0.pc (X44 N) (Fbrake_required_0 N N) :: ubrake_required_1 N
theorem okubrake_required_0 (N : Nat) : ∀ u ∈ ubrake_required_0 N, PcOk (X44 N) (bodyOf Try.f63) u := pc_cons ((cbrake_required_0 N N).pc (by kernel_rfl)) (okubrake_required_1 N)
noncomputable def dbrake_required : FD D := { f := 63, np := 3, ins := [.v 0 (.sl 72), .v 1 (.int .i64), .v 2 (.int .i64)], fx := [], rcv := none, rk := 0, outs := [.v 6 (.int .i64), .v 7 .bool], ofx := [], rvs := [.tmp 6, .tmp 7], flat := true }
noncomputable def Fbrake_required (N : Nat) : dbrake_required.F := fun r x => brake_required N x.1 x.2.1 x.2.2.1
theorem obrake_required (N : Nat) : FOk Try.prog (X44 N) dbrake_required (Fbrake_required N) := ⟨⟨Try.f63, _, Try.func63, rfl, by kernel_rfl, by kernel_rfl, rfl, FC.of (cok44 N) (us := ubrake_required_0 N) (fun u h _ => okubrake_required_0 N u h) (fun r x => by kernel_rfl)⟩, by kernel_rfl, by kernel_rfl, by kernel_rfl, by kernel_rfl⟩
noncomputable def fs45 (N : Nat) : List (FE D) := ⟨dbrake_required, Fbrake_required N⟩ :: fs44 N
theorem all45 (N : Nat) : ∀ y ∈ fs45 N, CallOk X0 y.d y.F := all_cons (x := ⟨dbrake_required, Fbrake_required N⟩) (obrake_required N) (all44 N)
noncomputable def X45 (N : Nat) : Ev Try.prog D := X0.with (fs45 N)
theorem cok45 (N : Nat) : COk (X45 N) := COk.of (all45 N)
/-! ### humpyard/brake.Required -/
noncomputable def u0_brake_Required (N : Nat) : List (Pc D) := []
theorem oku0_brake_Required (N : Nat) : ∀ u ∈ u0_brake_Required N, PcOk (X45 N) (bodyOf Try.f41) u := pc_nil
noncomputable def Pbrake_Required_0 : PD D := { path := [1, 1, 0, 0], ins := [.v 1 (.int .i64), .v 2 (.int .i64)], fx := [], ks := [], exs := [⟨.normal, [.v 20 .bool], []⟩], keep := [0, 1, 2] }
noncomputable def Fbrake_Required_0 (N : Nat) : Pbrake_Required_0.F := fun x => brake_Required_0 N x.1 x.2.1
theorem cbrake_Required_0 (N : Nat) : CC (X45 N) (bodyOf Try.f41) Pbrake_Required_0 (Fbrake_Required_0 N) := CC.of (cok45 N) (us := u0_brake_Required N) (fun u h _ => oku0_brake_Required N u h) (fun x => by kernel_rfl)
noncomputable def ubrake_Required_0 (N : Nat) : List (Pc D) := Pbrake_Required_0.pc (X45 N) (Fbrake_Required_0 N) :: u0_brake_Required N
theorem okubrake_Required_0 (N : Nat) : ∀ u ∈ ubrake_Required_0 N, PcOk (X45 N) (bodyOf Try.f41) u := pc_cons ((cbrake_Required_0 N).pc (by kernel_rfl)) (oku0_brake_Required N)
noncomputable def dbrake_Required : FD D := { f := 41, np := 3, ins := [.v 0 (.sl 72), .v 1 (.int .i64), .v 2 (.int .i64)], fx := [], rcv := none, rk := 0, outs := [.v 6 (.int .i64), .v 7 (.int .i64)], ofx := [], rvs := [.tmp 6, .tmp 7], flat := true }
noncomputable def Fbrake_Required (N : Nat) : dbrake_Required.F := fun r x => brake_Required N x.1 x.2.1 x.2.2.1
theorem obrake_Required (N : Nat) : FOk Try.prog (X45 N) dbrake_Required (Fbrake_Required N) := ⟨⟨Try.f41, _, Try.func41, rfl, by kernel_rfl, by kernel_rfl, rfl, FC.of (cok45 N) (us := ubrake_Required_0 N) (fun u h _ => okubrake_Required_0 N u h) (fun r x => by kernel_rfl)⟩, by kernel_rfl, by kernel_rfl, by kernel_rfl, by kernel_rfl⟩
noncomputable def fs46 (N : Nat) : List (FE D) := ⟨dbrake_Required, Fbrake_Required N⟩ :: fs45 N
theorem all46 (N : Nat) : ∀ y ∈ fs46 N, CallOk X0 y.d y.F := all_cons (x := ⟨dbrake_Required, Fbrake_Required N⟩) (obrake_Required N) (all45 N)
noncomputable def X46 (N : Nat) : Ev Try.prog D := X0.with (fs46 N)
theorem cok46 (N : Nat) : COk (X46 N) := COk.of (all46 N)
/-! ### humpyard/brake.Sheet -/
noncomputable def u0_brake_Sheet (N : Nat) : List (Pc D) := []
theorem oku0_brake_Sheet (N : Nat) : ∀ u ∈ u0_brake_Sheet N, PcOk (X46 N) (bodyOf Try.f21) u := pc_nil
noncomputable def dbrake_Sheet : FD D := { f := 21, np := 5, ins := [.v 0 (.sl 53), .v 1 (.sl 3), .v 2 (.sl 72), .v 3 (.int .i64), .v 4 (.int .i64)], fx := [], rcv := none, rk := 0, outs := [.v 1000000 (.agg 37), .v 11 (.int .i64)], ofx := [], rvs := [.cell 10 37, .tmp 11], flat := true }
noncomputable def Fbrake_Sheet (N : Nat) : dbrake_Sheet.F := fun r x => brake_Sheet N x.1 x.2.1 x.2.2.1 x.2.2.2.1 x.2.2.2.2.1
theorem obrake_Sheet (N : Nat) : FOk Try.prog (X46 N) dbrake_Sheet (Fbrake_Sheet N) := ⟨⟨Try.f21, _, Try.func21, rfl, by kernel_rfl, by kernel_rfl, rfl, FC.of (cok46 N) (us := u0_brake_Sheet N) (fun u h _ => oku0_brake_Sheet N u h) (fun r x => by kernel_rfl)⟩, by kernel_rfl, by kernel_rfl, by kernel_rfl, by kernel_rfl⟩
noncomputable def fs47 (N : Nat) : List (FE D) := ⟨dbrake_Sheet, Fbrake_Sheet N⟩ :: fs46 N
theorem all47 (N : Nat) : ∀ y ∈ fs47 N, CallOk X0 y.d y.F := all_cons (x := ⟨dbrake_Sheet, Fbrake_Sheet N⟩) (obrake_Sheet N) (all46 N)
noncomputable def X47 (N : Nat) : Ev Try.prog D := X0.with (fs47 N)
theorem cok47 (N : Nat) : COk (X47 N) := COk.of (all47 N)
/-! ### (humpyard/rulebook.train).place$1 -/
noncomputable def u0_rulebook_train_place_1 (N : Nat) : List (Pc D) := []
theorem oku0_rulebook_train_place_1 (N : Nat) : ∀ u ∈ u0_rulebook_train_place_1 N, PcOk (X47 N) (bodyOf Try.f68) u := pc_nil
noncomputable def drulebook_train_place_1 : FD D := { f := 68, np := 1, ins := [.v 0 (.agg 53)], fx := [], rcv := none, rk := 0, outs := [.v 2 (.int .i64)], ofx := [], rvs := [.tmp 2], flat := true }
noncomputable def Frulebook_train_place_1 (N : Nat) : drulebook_train_place_1.F := fun r x => rulebook_train_place_1 N x.1
theorem orulebook_train_place_1 (N : Nat) : FOk Try.prog (X47 N) drulebook_train_place_1 (Frulebook_train_place_1 N) := ⟨⟨Try.f68, _, Try.func68, rfl, by kernel_rfl, by kernel_rfl, rfl, FC.of (cok47 N) (us := u0_rulebook_train_place_1 N) (fun u h _ => oku0_rulebook_train_place_1 N u h) (fun r x => by kernel_rfl)⟩, by kernel_rfl, by kernel_rfl, by kernel_rfl, by kernel_rfl⟩
noncomputable def fs48 (N : Nat) : List (FE D) := ⟨drulebook_train_place_1, Frulebook_train_place_1 N⟩ :: fs47 N
theorem all48 (N : Nat) : ∀ y ∈ fs48 N, CallOk X0 y.d y.F := all_cons (x := ⟨drulebook_train_place_1, Frulebook_train_place_1 N⟩) (orulebook_train_place_1 N) (all47 N)
noncomputable def X48 (N : Nat) : Ev Try.prog D := X0.with (fs48 N)
theorem cok48 (N : Nat) : COk (X48 N) := COk.of (all48 N)
/-! ### (humpyard/rulebook.train).beyond -/
noncomputable def u0_train_beyond__rulebook_train_place_1 (N : Nat) : List (Pc D) := []
theorem oku0_train_beyond__rulebook_train_place_1 (N : Nat) : ∀ u ∈ u0_train_beyond__rulebook_train_place_1 N, PcOk (X48 N) (bodyOf Try.f67) u := pc_nil
noncomputable def Ptrain_beyond__rulebook_train_place_1_0 : PD D := { path := [1, 1, 0, 1, 0], ins := [.v 1 (.int .i64), .v 7 (.int .i64), .v 11 (.sl 53), .v 12 (.int .i64), .v 13 (.int .i64)], fx := [(2, .fn 68 [])], ks := [], exs := [⟨.exit 0, [], []⟩, ⟨.ret, [.v 6 (.int .i64)], []⟩], keep := [] }
noncomputable def Ftrain_beyond__rulebook_train_place_1_0 (N n : Nat) : Ptrain_beyond__rulebook_train_place_1_0.F := fun x => train_beyond__rulebook_train_place_1_0 N x.1 x.2.2.1 x.2.2.2.1 n x.2.1 x.2.2.2.2.1
theorem ctrain_beyond__rulebook_train_place_1_0 (N n : Nat) : CC (X48 N) (bodyOf Try.f67) Ptrain_beyond__rulebook_train_place_1_0 (Ftrain_beyond__rulebook_train_place_1_0 N n) := CC.loop (cok48 N) (us := u0_train_beyond__rulebook_train_place_1 N) (c := sub (bodyOf Try.f67) [1, 1, 0, 1, 0, 0]) (by kernel_rfl) (by kernel_rfl) (fun u h _ => oku0_train_beyond__rulebook_train_place_1 N u h) (fun x => rfl) (fun n x => by kernel_rfl) n
noncomputable def utrain_beyond__rulebook_train_place_1_0 (N : Nat) : List (Pc D) := Ptrain_beyond__rulebook_train_place_1_0.pc (X48 N) (Ftrain_beyond__rulebook_train_place_1_0 N N) :: u0_train_beyond__rulebook_train_place_1 N
theorem okutrain_beyond__rulebook_train_place_1_0 (N : Nat) : ∀ u ∈ utrain_beyond__rulebook_train_place_1_0 N, PcOk (X48 N) (bodyOf Try.f67) u := pc_cons ((ctrain_beyond__rulebook_train_place_1_0 N N).pc (by kernel_rfl)) (oku0_train_beyond__rulebook_train_place_1 N)
noncomputable def dtrain_beyond__rulebook_train_place_1 : FD D := { f := 67, np := 3, ins := [.v 0 (.agg 91), .v 1 (.int .i64)], fx := [(2, .fn 68 [])], rcv := none, rk := 0, outs := [.v 6 (.int .i64)], ofx := [], rvs := [.tmp 6], flat := true }
noncomputable def Ftrain_beyond__rulebook_train_place_1 (N : Nat) : dtrain_beyond__rulebook_train_place_1.F := fun r x => train_beyond__rulebook_train_place_1 N x.1 x.2.1
theorem otrain_beyond__rulebook_train_place_1 (N : Nat) : FOk Try.prog (X48 N) dtrain_beyond__rulebook_train_place_1 (Ftrain_beyond__rulebook_train_place_1 N) := ⟨⟨Try.f67, _, Try.func67, rfl, by kernel_rfl, by kernel_rfl, rfl, FC.of (cok48 N) (us := utrain_beyond__rulebook_train_place_1_0 N) (fun u h _ => okutrain_beyond__rulebook_train_place_1_0 N u h) (fun r x => by kernel_rfl)⟩, by kernel_rfl, by kernel_rfl, by kernel_rfl, by kernel_rfl⟩
noncomputable def fs49 (N : Nat) : List (FE D) := ⟨dtrain_beyond__rulebook_train_place_1, Ftrain_beyond__rulebook_train_place_1 N⟩ :: fs48 N
theorem all49 (N : Nat) : ∀ y ∈ fs49 N, CallOk X0 y.d y.F := all_cons (x := ⟨dtrain_beyond__rulebook_train_place_1, Ftrain_beyond__rulebook_train_place_1 N⟩) (otrain_beyond__rulebook_train_place_1 N) (all48 N)
noncomputable def X49 (N : Nat) : Ev Try.prog D := X0.with (fs49 N)
theorem cok49 (N : Nat) : COk (X49 N) := COk.of (all49 N)
/-! ### (humpyard/rulebook.train).place$2 -/
noncomputable def u0_rulebook_train_place_2 (N : Nat) : List (Pc D) := []
theorem oku0_rulebook_train_place_2 (N : Nat) : ∀ u ∈ u0_rulebook_train_place_2 N, PcOk (X49 N) (bodyOf Try.f69) u := pc_nil
noncomputable def drulebook_train_place_2 : FD D := { f := 69, np := 1, ins := [.v 0 (.agg 53)], fx := [], rcv := none, rk := 0, outs := [.v 2 (.int .i64)], ofx := [], rvs := [.tmp 2], flat := true }
noncomputable def Frulebook_train_place_2 (N : Nat) : drulebook_train_place_2.F := fun r x => rulebook_train_place_2 N x.1
theorem orulebook_train_place_2 (N : Nat) : FOk Try.prog (X49 N) drulebook_train_place_2 (Frulebook_train_place_2 N) := ⟨⟨Try.f69, _, Try.func69, rfl, by kernel_rfl, by kernel_rfl, rfl, FC.of (cok49 N) (us := u0_rulebook_train_place_2 N) (fun u h _ => oku0_rulebook_train_place_2 N u h) (fun r x => by kernel_rfl)⟩, by kernel_rfl, by kernel_rfl, by kernel_rfl, by kernel_rfl⟩
noncomputable def fs50 (N : Nat) : List (FE D) := ⟨drulebook_train_place_2, Frulebook_train_place_2 N⟩ :: fs49 N
theorem all50 (N : Nat) : ∀ y ∈ fs50 N, CallOk X0 y.d y.F := all_cons (x := ⟨drulebook_train_place_2, Frulebook_train_place_2 N⟩) (orulebook_train_place_2 N) (all49 N)
noncomputable def X50 (N : Nat) : Ev Try.prog D := X0.with (fs50 N)
theorem cok50 (N : Nat) : COk (X50 N) := COk.of (all50 N)
/-! ### (humpyard/rulebook.train).beyond -/
noncomputable def u0_train_beyond__rulebook_train_place_2 (N : Nat) : List (Pc D) := []
theorem oku0_train_beyond__rulebook_train_place_2 (N : Nat) : ∀ u ∈ u0_train_beyond__rulebook_train_place_2 N, PcOk (X50 N) (bodyOf Try.f67) u := pc_nil
noncomputable def Ptrain_beyond__rulebook_train_place_2_0 : PD D := { path := [1, 1, 0, 1, 0], ins := [.v 1 (.int .i64), .v 7 (.int .i64), .v 11 (.sl 53), .v 12 (.int .i64), .v 13 (.int .i64)], fx := [(2, .fn 69 [])], ks := [], exs := [⟨.exit 0, [], []⟩, ⟨.ret, [.v 6 (.int .i64)], []⟩], keep := [] }
noncomputable def Ftrain_beyond__rulebook_train_place_2_0 (N n : Nat) : Ptrain_beyond__rulebook_train_place_2_0.F := fun x => train_beyond__rulebook_train_place_2_0 N x.1 x.2.2.1 x.2.2.2.1 n x.2.1 x.2.2.2.2.1
theorem ctrain_beyond__rulebook_train_place_2_0 (N n : Nat) : CC (X50 N) (bodyOf Try.f67) Ptrain_beyond__rulebook_train_place_2_0 (Ftrain_beyond__rulebook_train_place_2_0 N n) := CC.loop (cok50 N) (us := u0_train_beyond__rulebook_train_place_2 N) (c := sub (bodyOf Try.f67) [1, 1, 0, 1, 0, 0]) (by kernel_rfl) (by kernel_rfl) (fun u h _ => oku0_train_beyond__rulebook_train_place_2 N u h) (fun x => rfl) (fun n x => by kernel_rfl) n
noncomputable def utrain_beyond__rulebook_train_place_2_0 (N : Nat) : List (Pc D) := Ptrain_beyond__rulebook_train_place_2_0.pc (X50 N) (Ftrain_beyond__rulebook_train_place_2_0 N N) :: u0_train_beyond__rulebook_train_place_2 N
theorem okutrain_beyond__rulebook_train_place_2_0 (N : Nat) : ∀ u ∈ utrain_beyond__rulebook_train_place_2_0 N, PcOk (X50 N) (bodyOf Try.f67) u := pc_cons ((ctrain_beyond__rulebook_train_place_2_0 N N).pc (by kernel_rfl)) (oku0_train_beyond__rulebook_train_place_2 N)
noncomputable def dtrain_beyond__rulebook_train_place_2 : FD D := { f := 67, np := 3, ins := [.v 0 (.agg 91), .v 1 (.int .i64)], fx := [(2, .fn 69 [])], rcv := none, rk := 0, outs := [.v 6 (.int .i64)], ofx := [], rvs := [.tmp 6], flat := true }
noncomputable def Ftrain_beyond__rulebook_train_place_2 (N : Nat) : dtrain_beyond__rulebook_train_place_2.F := fun r x => train_beyond__rulebook_train_place_2 N x.1 x.2.1
theorem otrain_beyond__rulebook_train_place_2 (N : Nat) : FOk Try.prog (X50 N) dtrain_beyond__rulebook_train_place_2 (Ftrain_beyond__rulebook_train_place_2 N) := ⟨⟨Try.f67, _, Try.func67, rfl, by kernel_rfl, by kernel_rfl, rfl, FC.of (cok50 N) (us := utrain_beyond__rulebook_train_place_2_0 N) (fun u h _ => okutrain_beyond__rulebook_train_place_2_0 N u h) (fun r x => by kernel_rfl)⟩, by kernel_rfl, by kernel_rfl, by kernel_rfl, by kernel_rfl⟩
noncomputable def fs51 (N : Nat) : List (FE D) := ⟨dtrain_beyond__rulebook_train_place_2, Ftrain_beyond__rulebook_train_place_2 N⟩ :: fs50 N
theorem all51 (N : Nat) : ∀ y ∈ fs51 N, CallOk X0 y.d y.F := all_cons (x := ⟨dtrain_beyond__rulebook_train_place_2, Ftrain_beyond__rulebook_train_place_2 N⟩) (otrain_beyond__rulebook_train_place_2 N) (all50 N)
noncomputable def X51 (N : Nat) : Ev Try.prog D := X0.with (fs51 N)
theorem cok51 (N : Nat) : COk (X51 N) := COk.of (all51 N)
/-! ### (humpyard/rulebook.train).place$3 -/
noncomputable def u0_rulebook_train_place_3 (N : Nat) : List (Pc D) := []
theorem oku0_rulebook_train_place_3 (N : Nat) : ∀ u ∈ u0_rulebook_train_place_3 N, PcOk (X51 N) (bodyOf Try.f70) u := pc_nil
noncomputable def drulebook_train_place_3 : FD D := { f := 70, np := 1, ins := [.v 0 (.agg 53)], fx := [], rcv := none, rk := 0, outs := [.v 2 (.int .i64)], ofx := [], rvs := [.tmp 2], flat := true }
noncomputable def Frulebook_train_place_3 (N : Nat) : drulebook_train_place_3.F := fun r x => rulebook_train_place_3 N x.1
theorem orulebook_train_place_3 (N : Nat) : FOk Try.prog (X51 N) drulebook_train_place_3 (Frulebook_train_place_3 N) := ⟨⟨Try.f70, _, Try.func70, rfl, by kernel_rfl, by kernel_rfl, rfl, FC.of (cok51 N) (us := u0_rulebook_train_place_3 N) (fun u h _ => oku0_rulebook_train_place_3 N u h) (fun r x => by kernel_rfl)⟩, by kernel_rfl, by kernel_rfl, by kernel_rfl, by kernel_rfl⟩
noncomputable def fs52 (N : Nat) : List (FE D) := ⟨drulebook_train_place_3, Frulebook_train_place_3 N⟩ :: fs51 N
theorem all52 (N : Nat) : ∀ y ∈ fs52 N, CallOk X0 y.d y.F := all_cons (x := ⟨drulebook_train_place_3, Frulebook_train_place_3 N⟩) (orulebook_train_place_3 N) (all51 N)
noncomputable def X52 (N : Nat) : Ev Try.prog D := X0.with (fs52 N)
theorem cok52 (N : Nat) : COk (X52 N) := COk.of (all52 N)
/-! ### (humpyard/rulebook.train).beyond -/
noncomputable def u0_train_beyond__rulebook_train_place_3 (N : Nat) : List (Pc D) := []
theorem oku0_train_beyond__rulebook_train_place_3 (N : Nat) : ∀ u ∈ u0_train_beyond__rulebook_train_place_3 N, PcOk (X52 N) (bodyOf Try.f67) u := pc_nil
noncomputable def Ptrain_beyond__rulebook_train_place_3_0 : PD D := { path := [1, 1, 0, 1, 0], ins := [.v 1 (.int .i64), .v 7 (.int .i64), .v 11 (.sl 53), .v 12 (.int .i64), .v 13 (.int .i64)], fx := [(2, .fn 70 [])], ks := [], exs := [⟨.exit 0, [], []⟩, ⟨.ret, [.v 6 (.int .i64)], []⟩], keep := [] }
noncomputable def Ftrain_beyond__rulebook_train_place_3_0 (N n : Nat) : Ptrain_beyond__rulebook_train_place_3_0.F := fun x => train_beyond__rulebook_train_place_3_0 N x.1 x.2.2.1 x.2.2.2.1 n x.2.1 x.2.2.2.2.1
theorem ctrain_beyond__rulebook_train_place_3_0 (N n : Nat) : CC (X52 N) (bodyOf Try.f67) Ptrain_beyond__rulebook_train_place_3_0 (Ftrain_beyond__rulebook_train_place_3_0 N n) := CC.loop (cok52 N) (us := u0_train_beyond__rulebook_train_place_3 N) (c := sub (bodyOf Try.f67) [1, 1, 0, 1, 0, 0]) (by kernel_rfl) (by kernel_rfl) (fun u h _ => oku0_train_beyond__rulebook_train_place_3 N u h) (fun x => rfl) (fun n x => by kernel_rfl) n
noncomputable def utrain_beyond__rulebook_train_place_3_0 (N : Nat) : List (Pc D) := Ptrain_beyond__rulebook_train_place_3_0.pc (X52 N) (Ftrain_beyond__rulebook_train_place_3_0 N N) :: u0_train_beyond__rulebook_train_place_3 N
theorem okutrain_beyond__rulebook_train_place_3_0 (N : Nat) : ∀ u ∈ utrain_beyond__rulebook_train_place_3_0 N, PcOk (X52 N) (bodyOf Try.f67) u := pc_cons ((ctrain_beyond__rulebook_train_place_3_0 N N).pc (by kernel_rfl)) (oku0_train_beyond__rulebook_train_place_3 N)
noncomputable def dtrain_beyond__rulebook_train_place_3 : FD D := { f := 67, np := 3, ins := [.v 0 (.agg 91), .v 1 (.int .i64)], fx := [(2, .fn 70 [])], rcv := none, rk := 0, outs := [.v 6 (.int .i64)], ofx := [], rvs := [.tmp 6], flat := true }
noncomputable def Ftrain_beyond__rulebook_train_place_3 (N : Nat) : dtrain_beyond__rulebook_train_place_3.F := fun r x => train_beyond__rulebook_train_place_3 N x.1 x.2.1
theorem otrain_beyond__rulebook_train_place_3 (N : Nat) : FOk Try.prog (X52 N) dtrain_beyond__rulebook_train_place_3 (Ftrain_beyond__rulebook_train_place_3 N) := ⟨⟨Try.f67, _, Try.func67, rfl, by kernel_rfl, by kernel_rfl, rfl, FC.of (cok52 N) (us := utrain_beyond__rulebook_train_place_3_0 N) (fun u h _ => okutrain_beyond__rulebook_train_place_3_0 N u h) (fun r x => by kernel_rfl)⟩, by kernel_rfl, by kernel_rfl, by kernel_rfl, by kernel_rfl⟩
noncomputable def fs53 (N : Nat) : List (FE D) := ⟨dtrain_beyond__rulebook_train_place_3, Ftrain_beyond__rulebook_train_place_3 N⟩ :: fs52 N
theorem all53 (N : Nat) : ∀ y ∈ fs53 N, CallOk X0 y.d y.F := all_cons (x := ⟨dtrain_beyond__rulebook_train_place_3, Ftrain_beyond__rulebook_train_place_3 N⟩) (otrain_beyond__rulebook_train_place_3 N) (all52 N)
noncomputable def X53 (N : Nat) : Ev Try.prog D := X0.with (fs53 N)
theorem cok53 (N : Nat) : COk (X53 N) := COk.of (all53 N)
/-! ### (humpyard/rulebook.train).end -/
noncomputable def u0_train_end (N : Nat) : List (Pc D) := []
theorem oku0_train_end (N : Nat) : ∀ u ∈ u0_train_end N, PcOk (X53 N) (bodyOf Try.f71) u := pc_nil
noncomputable def dtrain_end : FD D := { f := 71, np := 2, ins := [.v 0 (.agg 91), .v 1 .bool], fx := [], rcv := none, rk := 0, outs := [.v 4 (.int .i64)], ofx := [], rvs := [.tmp 4], flat := true }
noncomputable def Ftrain_end (N : Nat) : dtrain_end.F := fun r x => train_end N x.1 x.2.1
theorem otrain_end (N : Nat) : FOk Try.prog (X53 N) dtrain_end (Ftrain_end N) := ⟨⟨Try.f71, _, Try.func71, rfl, by kernel_rfl, by kernel_rfl, rfl, FC.of (cok53 N) (us := u0_train_end N) (fun u h _ => oku0_train_end N u h) (fun r x => by kernel_rfl)⟩, by kernel_rfl, by kernel_rfl, by kernel_rfl, by kernel_rfl⟩
noncomputable def fs54 (N : Nat) : List (FE D) := ⟨dtrain_end, Ftrain_end N⟩ :: fs53 N
theorem all54 (N : Nat) : ∀ y ∈ fs54 N, CallOk X0 y.d y.F := all_cons (x := ⟨dtrain_end, Ftrain_end N⟩) (otrain_end N) (all53 N)
noncomputable def X54 (N : Nat) : Ev Try.prog D := X0.with (fs54 N)
theorem cok54 (N : Nat) : COk (X54 N) := COk.of (all54 N)
/-! ### (humpyard/rulebook.train).apart -/
noncomputable def u0_train_apart (N : Nat) : List (Pc D) := []
theorem oku0_train_apart (N : Nat) : ∀ u ∈ u0_train_apart N, PcOk (X54 N) (bodyOf Try.f74) u := pc_nil
noncomputable def Ptrain_apart_1 : PD D := { path := [1, 0, 1, 0, 0, 1, 1, 0, 0, 1, 1, 0], ins := [.v 2 (.int .i64), .o 3 (.box 91), .o 4 (.box 75), .v 7 (.int .i64), .v 8 (.int .i64), .v 9 (.int .i64)], fx := [(3, .box 0 0), (4, .box 1 0)], ks := [1, 1], exs := [⟨.normal, [.v 56 .bool], []⟩], keep := [2, 3, 4, 10, 11] }
noncomputable def Ftrain_apart_1 (N : Nat) : Ptrain_apart_1.F := fun x => train_apart_1 N x.1 x.2.2.1 x.2.2.2.1 x.2.2.2.2.1 x.2.2.2.2.2.1
theorem ctrain_apart_1 (N : Nat) : CC (X54 N) (bodyOf Try.f74) Ptrain_apart_1 (Ftrain_apart_1 N) := CC.of (cok54 N) (us := u0_train_apart N) (fun u h _ => oku0_train_apart N u h) (fun x => by kernel_rfl)
noncomputable def utrain_apart_1 (N : Nat) : List (Pc D) := Ptrain_apart_1.pc (X54 N) (Ftrain_apart_1 N) :: u0_train_apart N
theorem okutrain_apart_1 (N : Nat) : ∀ u ∈ utrain_apart_1 N, PcOk (X54 N) (bodyOf Try.f74) u := pc_cons ((ctrain_apart_1 N).pc (by kernel_rfl)) (oku0_train_apart N)
noncomputable def Ptrain_apart_0 : PD D := { path := [1, 0, 1, 0], ins := [.v 2 (.int .i64), .o 3 (.box 91), .o 4 (.box 75), .v 10 (.int .i64), .v 11 (.int .i64)], fx := [(3, .box 0 0), (4, .box 1 0)], ks := [1, 1], exs := [⟨.exit 0, [], []⟩, ⟨.ret, [.v 6 .bool], []⟩], keep := [] }
noncomputable def Ftrain_apart_0 (N n : Nat) : Ptrain_apart_0.F := fun x => train_apart_0 N x.1 x.2.1 x.2.2.1 x.2.2.2.1 n x.2.2.2.2.1
theorem ctrain_apart_0 (N n : Nat) : CC (X54 N) (bodyOf Try.f74) Ptrain_apart_0 (Ftrain_apart_0 N n) := CC.loop (cok54 N) (us := utrain_apart_1 N) (c := sub (bodyOf Try.f74) [1, 0, 1, 0, 0]) (by kernel_rfl) (by kernel_rfl) (fun u h _ => okutrain_apart_1 N u h) (fun x => rfl) (fun n x => by kernel_rfl) n
noncomputable def utrain_apart_0 (N : Nat) : List (Pc D) := Ptrain_apart_0.pc (X54 N) (Ftrain_apart_0 N N) :: utrain_apart_1 N
theorem okutrain_apart_0 (N : Nat) : ∀ u ∈ utrain_apart_0 N, PcOk (X54 N) (bodyOf Try.f74) u := pc_cons ((ctrain_apart_0 N N).pc (by kernel_rfl)) (okutrain_apart_1 N)
noncomputable def dtrain_apart : FD D := { f := 74, np := 3, ins := [.v 0 (.agg 91), .v 1 (.agg 75), .v 2 (.int .i64)], fx := [], rcv := none, rk := 0, outs := [.v 6 .bool], ofx := [], rvs := [.tmp 6], flat := true }
noncomputable def Ftrain_apart (N : Nat) : dtrain_apart.F := fun r x => train_apart N x.1 x.2.1 x.2.2.1
theorem otrain_apart (N : Nat) : FOk Try.prog (X54 N) dtrain_apart (Ftrain_apart N) := ⟨⟨Try.f74, _, Try.func74, rfl, by kernel_rfl, by kernel_rfl, rfl, FC.of (cok54 N) (us := utrain_apart_0 N) (fun u h _ => okutrain_apart_0 N u h) (fun r x => by kernel_rfl)⟩, by kernel_rfl, by kernel_rfl, by kernel_rfl, by kernel_rfl⟩
noncomputable def fs55 (N : Nat) : List (FE D) := ⟨dtrain_apart, Ftrain_apart N⟩ :: fs54 N
theorem all55 (N : Nat) : ∀ y ∈ fs55 N, CallOk X0 y.d y.F := all_cons (x := ⟨dtrain_apart, Ftrain_apart N⟩) (otrain_apart N) (all54 N)
noncomputable def X55 (N : Nat) : Ev Try.prog D := X0.with (fs55 N)
theorem cok55 (N : Nat) : COk (X55 N) := COk.of (all55 N)
/-! ### (humpyard/rulebook.train).place$4 -/
noncomputable def u0_rulebook_train_place_4 (N : Nat) : List (Pc D) := []
theorem oku0_rulebook_train_place_4 (N : Nat) : ∀ u ∈ u0_rulebook_train_place_4 N, PcOk (X55 N) (bodyOf Try.f73) u := pc_nil
noncomputable def drulebook_train_place_4 : FD D := { f := 73, np := 4, ins := [.v 0 (.int .i64), .v 1 (.agg 53), .v 2 (.rp 91), .v 3 (.rp 75)], fx := [], rcv := none, rk := 0, outs := [.v 6 .bool], ofx := [], rvs := [.tmp 6], flat := true }
noncomputable def Frulebook_train_place_4 (N : Nat) : drulebook_train_place_4.F := fun r x => rulebook_train_place_4 N x.1 x.2.2.1 x.2.2.2.1
theorem orulebook_train_place_4 (N : Nat) : FOk Try.prog (X55 N) drulebook_train_place_4 (Frulebook_train_place_4 N) := ⟨⟨Try.f73, _, Try.func73, rfl, by kernel_rfl, by kernel_rfl, rfl, FC.of (cok55 N) (us := u0_rulebook_train_place_4 N) (fun u h _ => oku0_rulebook_train_place_4 N u h) (fun r x => by kernel_rfl)⟩, by kernel_rfl, by kernel_rfl, by kernel_rfl, by kernel_rfl⟩
noncomputable def fs56 (N : Nat) : List (FE D) := ⟨drulebook_train_place_4, Frulebook_train_place_4 N⟩ :: fs55 N
theorem all56 (N : Nat) : ∀ y ∈ fs56 N, CallOk X0 y.d y.F := all_cons (x := ⟨drulebook_train_place_4, Frulebook_train_place_4 N⟩) (orulebook_train_place_4 N) (all55 N)
noncomputable def X56 (N : Nat) : Ev Try.prog D := X0.with (fs56 N)
theorem cok56 (N : Nat) : COk (X56 N) := COk.of (all56 N)
/-! ### (humpyard/rulebook.train).first -/
noncomputable def u0_train_first__rulebook_train_place_4 (N : Nat) : List (Pc D) := []
theorem oku0_train_first__rulebook_train_place_4 (N : Nat) : ∀ u ∈ u0_train_first__rulebook_train_place_4 N, PcOk (X56 N) (bodyOf Try.f72) u := pc_nil
noncomputable def Ptrain_first__rulebook_train_place_4_0 : PD D := { path := [1, 0, 1, 0], ins := [.v 1 (.fn 73 [91, 75]), .v 8 (.sl 53), .v 9 (.int .i64), .v 10 (.int .i64)], fx := [], ks := [], exs := [⟨.exit 0, [], []⟩, ⟨.ret, [.v 4 (.int .i64)], []⟩], keep := [] }
noncomputable def Ftrain_first__rulebook_train_place_4_0 (N n : Nat) : Ptrain_first__rulebook_train_place_4_0.F := fun x => train_first__rulebook_train_place_4_0 N (x.1.1, x.1.2.1) x.2.1 x.2.2.1 n x.2.2.2.1
theorem ctrain_first__rulebook_train_place_4_0 (N n : Nat) : CC (X56 N) (bodyOf Try.f72) Ptrain_first__rulebook_train_place_4_0 (Ftrain_first__rulebook_train_place_4_0 N n) := CC.loop (cok56 N) (us := u0_train_first__rulebook_train_place_4 N) (c := sub (bodyOf Try.f72) [1, 0, 1, 0, 0]) (by kernel_rfl) (by kernel_rfl) (fun u h _ => oku0_train_first__rulebook_train_place_4 N u h) (fun x => rfl) (fun n x => by kernel_rfl) n
noncomputable def utrain_first__rulebook_train_place_4_0 (N : Nat) : List (Pc D) := Ptrain_first__rulebook_train_place_4_0.pc (X56 N) (Ftrain_first__rulebook_train_place_4_0 N N) :: u0_train_first__rulebook_train_place_4 N
theorem okutrain_first__rulebook_train_place_4_0 (N : Nat) : ∀ u ∈ utrain_first__rulebook_train_place_4_0 N, PcOk (X56 N) (bodyOf Try.f72) u := pc_cons ((ctrain_first__rulebook_train_place_4_0 N N).pc (by kernel_rfl)) (oku0_train_first__rulebook_train_place_4 N)
noncomputable def dtrain_first__rulebook_train_place_4 : FD D := { f := 72, np := 2, ins := [.v 0 (.agg 91), .v 1 (.fn 73 [91, 75])], fx := [], rcv := none, rk := 0, outs := [.v 4 (.int .i64)], ofx := [], rvs := [.tmp 4], flat := true }
noncomputable def Ftrain_first__rulebook_train_place_4 (N : Nat) : dtrain_first__rulebook_train_place_4.F := fun r x => train_first__rulebook_train_place_4 N x.1 (x.2.1.1, x.2.1.2.1)
theorem otrain_first__rulebook_train_place_4 (N : Nat) : FOk Try.prog (X56 N) dtrain_first__rulebook_train_place_4 (Ftrain_first__rulebook_train_place_4 N) := ⟨⟨Try.f72, _, Try.func72, rfl, by kernel_rfl, by kernel_rfl, rfl, FC.of (cok56 N) (us := utrain_first__rulebook_train_place_4_0 N) (fun u h _ => okutrain_first__rulebook_train_place_4_0 N u h) (fun r x => by kernel_rfl)⟩, by kernel_rfl, by kernel_rfl, by kernel_rfl, by kernel_rfl⟩
noncomputable def fs57 (N : Nat) : List (FE D) := ⟨dtrain_first__rulebook_train_place_4, Ftrain_first__rulebook_train_place_4 N⟩ :: fs56 N
theorem all57 (N : Nat) : ∀ y ∈ fs57 N, CallOk X0 y.d y.F := all_cons (x := ⟨dtrain_first__rulebook_train_place_4, Ftrain_first__rulebook_train_place_4 N⟩) (otrain_first__rulebook_train_place_4 N) (all56 N)
noncomputable def X57 (N : Nat) : Ev Try.prog D := X0.with (fs57 N)
theorem cok57 (N : Nat) : COk (X57 N) := COk.of (all57 N)
/-! ### (humpyard/rulebook.train).place$5 -/
noncomputable def u0_rulebook_train_place_5 (N : Nat) : List (Pc D) := []
theorem oku0_rulebook_train_place_5 (N : Nat) : ∀ u ∈ u0_rulebook_train_place_5 N, PcOk (X57 N) (bodyOf Try.f75) u := pc_nil
noncomputable def Prulebook_train_place_5_0 : PD D := { path := [1, 0], ins := [.v 0 (.int .i64), .v 2 (.rp 75), .o 4 (.box 53)], fx := [(4, .box 0 0)], ks := [1], exs := [⟨.normal, [.v 5 .bool], []⟩], keep := [] }
noncomputable def Frulebook_train_place_5_0 (N : Nat) : Prulebook_train_place_5_0.F := fun x => rulebook_train_place_5_0 N x.1 x.2.1 x.2.2.1
theorem crulebook_train_place_5_0 (N : Nat) : CC (X57 N) (bodyOf Try.f75) Prulebook_train_place_5_0 (Frulebook_train_place_5_0 N) := CC.of (cok57 N) (us := u0_rulebook_train_place_5 N) (fun u h _ => oku0_rulebook_train_place_5 N u h) (fun x => by kernel_rfl)
noncomputable def urulebook_train_place_5_0 (N : Nat) : List (Pc D) := Prulebook_train_place_5_0.pc (X57 N) (Frulebook_train_place_5_0 N) :: u0_rulebook_train_place_5 N
theorem okurulebook_train_place_5_0 (N : Nat) : ∀ u ∈ urulebook_train_place_5_0 N, PcOk (X57 N) (bodyOf Try.f75) u := pc_cons ((crulebook_train_place_5_0 N).pc (by kernel_rfl)) (oku0_rulebook_train_place_5 N)
noncomputable def drulebook_train_place_5 : FD D := { f := 75, np := 3, ins := [.v 0 (.int .i64), .v 1 (.agg 53), .v 2 (.rp 75)], fx := [], rcv := none, rk := 0, outs := [.v 5 .bool], ofx := [], rvs := [.tmp 5], flat := true }
noncomputable def Frulebook_train_place_5 (N : Nat) : drulebook_train_place_5.F := fun r x => rulebook_train_place_5 N x.1 x.2.1 x.2.2.1
theorem orulebook_train_place_5 (N : Nat) : FOk Try.prog (X57 N) drulebook_train_place_5 (Frulebook_train_place_5 N) := ⟨⟨Try.f75, _, Try.func75, rfl, by kernel_rfl, by kernel_rfl, rfl, FC.of (cok57 N) (us := urulebook_train_place_5_0 N) (fun u h _ => okurulebook_train_place_5_0 N u h) (fun r x => by kernel_rfl)⟩, by kernel_rfl, by kernel_rfl, by kernel_rfl, by kernel_rfl⟩
noncomputable def fs58 (N : Nat) : List (FE D) := ⟨drulebook_train_place_5, Frulebook_train_place_5 N⟩ :: fs57 N
theorem all58 (N : Nat) : ∀ y ∈ fs58 N, CallOk X0 y.d y.F := all_cons (x := ⟨drulebook_train_place_5, Frulebook_train_place_5 N⟩) (orulebook_train_place_5 N) (all57 N)
noncomputable def X58 (N : Nat) : Ev Try.prog D := X0.with (fs58 N)
theorem cok58 (N : Nat) : COk (X58 N) := COk.of (all58 N)
/-! ### (humpyard/rulebook.train).first -/
noncomputable def u0_train_first__rulebook_train_place_5 (N : Nat) : List (Pc D) := []
theorem oku0_train_first__rulebook_train_place_5 (N : Nat) : ∀ u ∈ u0_train_first__rulebook_train_place_5 N, PcOk (X58 N) (bodyOf Try.f72) u := pc_nil
noncomputable def Ptrain_first__rulebook_train_place_5_0 : PD D := { path := [1, 0, 1, 0], ins := [.v 1 (.fn 75 [75]), .v 8 (.sl 53), .v 9 (.int .i64), .v 10 (.int .i64)], fx := [], ks := [], exs := [⟨.exit 0, [], []⟩, ⟨.ret, [.v 4 (.int .i64)], []⟩], keep := [] }
noncomputable def Ftrain_first__rulebook_train_place_5_0 (N n : Nat) : Ptrain_first__rulebook_train_place_5_0.F := fun x => train_first__rulebook_train_place_5_0 N x.1.1 x.2.1 x.2.2.1 n x.2.2.2.1
theorem ctrain_first__rulebook_train_place_5_0 (N n : Nat) : CC (X58 N) (bodyOf Try.f72) Ptrain_first__rulebook_train_place_5_0 (Ftrain_first__rulebook_train_place_5_0 N n) := CC.loop (cok58 N) (us := u0_train_first__rulebook_train_place_5 N) (c := sub (bodyOf Try.f72) [1, 0, 1, 0, 0]) (by kernel_rfl) (by kernel_rfl) (fun u h _ => oku0_train_first__rulebook_train_place_5 N u h) (fun x => rfl) (fun n x => by kernel_rfl) n
noncomputable def utrain_first__rulebook_train_place_5_0 (N : Nat) : List (Pc D) := Ptrain_first__rulebook_train_place_5_0.pc (X58 N) (Ftrain_first__rulebook_train_place_5_0 N N) :: u0_train_first__rulebook_train_place_5 N
theorem okutrain_first__rulebook_train_place_5_0 (N : Nat) : ∀ u ∈ utrain_first__rulebook_train_place_5_0 N, PcOk (X58 N) (bodyOf Try.f72) u := pc_cons ((ctrain_first__rulebook_train_place_5_0 N N).pc (by kernel_rfl)) (oku0_train_first__rulebook_train_place_5 N)
noncomputable def dtrain_first__rulebook_train_place_5 : FD D := { f := 72, np := 2, ins := [.v 0 (.agg 91), .v 1 (.fn 75 [75])], fx := [], rcv := none, rk := 0, outs := [.v 4 (.int .i64)], ofx := [], rvs := [.tmp 4], flat := true }
noncomputable def Ftrain_first__rulebook_train_place_5 (N : Nat) : dtrain_first__rulebook_train_place_5.F := fun r x => train_first__rulebook_train_place_5 N x.1 x.2.1.1
theorem otrain_first__rulebook_train_place_5 (N : Nat) : FOk Try.prog (X58 N) dtrain_first__rulebook_train_place_5 (Ftrain_first__rulebook_train_place_5 N) := ⟨⟨Try.f72, _, Try.func72, rfl, by kernel_rfl, by kernel_rfl, rfl, FC.of (cok58 N) (us := utrain_first__rulebook_train_place_5_0 N) (fun u h _ => okutrain_first__rulebook_train_place_5_0 N u h) (fun r x => by kernel_rfl)⟩, by kernel_rfl, by kernel_rfl, by kernel_rfl, by kernel_rfl⟩
noncomputable def fs59 (N : Nat) : List (FE D) := ⟨dtrain_first__rulebook_train_place_5, Ftrain_first__rulebook_train_place_5 N⟩ :: fs58 N
theorem all59 (N : Nat) : ∀ y ∈ fs59 N, CallOk X0 y.d y.F := all_cons (x := ⟨dtrain_first__rulebook_train_place_5, Ftrain_first__rulebook_train_place_5 N⟩) (otrain_first__rulebook_train_place_5 N) (all58 N)
noncomputable def X59 (N : Nat) : Ev Try.prog D := X0.with (fs59 N)
theorem cok59 (N : Nat) : COk (X59 N) := COk.of (all59 N)
/-! ### slices.Index[[]int,int] -/
noncomputable def u0_slices_Index_int_int (N : Nat) : List (Pc D) := []
theorem oku0_slices_Index_int_int (N : Nat) : ∀ u ∈ u0_slices_Index_int_int N, PcOk (X59 N) (bodyOf Try.f94) u := pc_nil
noncomputable def Pslices_Index_int_int_0 : PD D := { path := [1, 0, 1, 0], ins := [.v 0 (.sl 3), .v 1 (.int .i64), .v 7 (.int .i64), .v 8 (.int .i64)], fx := [], ks := [], exs := [⟨.exit 0, [], []⟩, ⟨.ret, [.v 4 (.int .i64)], []⟩], keep := [] }
noncomputable def Fslices_Index_int_int_0 (N n : Nat) : Pslices_Index_int_int_0.F := fun x => slices_Index_int_int_0 N x.1 x.2.1 x.2.2.1 n x.2.2.2.1
theorem cslices_Index_int_int_0 (N n : Nat) : CC (X59 N) (bodyOf Try.f94) Pslices_Index_int_int_0 (Fslices_Index_int_int_0 N n) := CC.loop (cok59 N) (us := u0_slices_Index_int_int N) (c := sub (bodyOf Try.f94) [1, 0, 1, 0, 0]) (by kernel_rfl) (by kernel_rfl) (fun u h _ => oku0_slices_Index_int_int N u h) (fun x => rfl) (fun n x => by kernel_rfl) n
noncomputable def uslices_Index_int_int_0 (N : Nat) : List (Pc D) := Pslices_Index_int_int_0.pc (X59 N) (Fslices_Index_int_int_0 N N) :: u0_slices_Index_int_int N
theorem okuslices_Index_int_int_0 (N : Nat) : ∀ u ∈ uslices_Index_int_int_0 N, PcOk (X59 N) (bodyOf Try.f94) u := pc_cons ((cslices_Index_int_int_0 N N).pc (by kernel_rfl)) (oku0_slices_Index_int_int N)
noncomputable def dslices_Index_int_int : FD D := { f := 94, np := 2, ins := [.v 0 (.sl 3), .v 1 (.int .i64)], fx := [], rcv := none, rk := 0, outs := [.v 4 (.int .i64)], ofx := [], rvs := [.tmp 4], flat := true }
noncomputable def Fslices_Index_int_int (N : Nat) : dslices_Index_int_int.F := fun r x => slices_Index_int_int N x.1 x.2.1
theorem oslices_Index_int_int (N : Nat) : FOk Try.prog (X59 N) dslices_Index_int_int (Fslices_Index_int_int N) := ⟨⟨Try.f94, _, Try.func94, rfl, by kernel_rfl, by kernel_rfl, rfl, FC.of (cok59 N) (us := uslices_Index_int_int_0 N) (fun u h _ => okuslices_Index_int_int_0 N u h) (fun r x => by kernel_rfl)⟩, by kernel_rfl, by kernel_rfl, by kernel_rfl, by kernel_rfl⟩
noncomputable def fs60 (N : Nat) : List (FE D) := ⟨dslices_Index_int_int, Fslices_Index_int_int N⟩ :: fs59 N
theorem all60 (N : Nat) : ∀ y ∈ fs60 N, CallOk X0 y.d y.F := all_cons (x := ⟨dslices_Index_int_int, Fslices_Index_int_int N⟩) (oslices_Index_int_int N) (all59 N)
noncomputable def X60 (N : Nat) : Ev Try.prog D := X0.with (fs60 N)
theorem cok60 (N : Nat) : COk (X60 N) := COk.of (all60 N)
/-! ### slices.Contains[[]int,int] -/
noncomputable def u0_slices_Contains_int_int (N : Nat) : List (Pc D) := []
theorem oku0_slices_Contains_int_int (N : Nat) : ∀ u ∈ u0_slices_Contains_int_int N, PcOk (X60 N) (bodyOf Try.f87) u := pc_nil
noncomputable def dslices_Contains_int_int : FD D := { f := 87, np := 2, ins := [.v 0 (.sl 3), .v 1 (.int .i64)], fx := [], rcv := none, rk := 0, outs := [.v 4 .bool], ofx := [], rvs := [.tmp 4], flat := true }
noncomputable def Fslices_Contains_int_int (N : Nat) : dslices_Contains_int_int.F := fun r x => slices_Contains_int_int N x.1 x.2.1
theorem oslices_Contains_int_int (N : Nat) : FOk Try.prog (X60 N) dslices_Contains_int_int (Fslices_Contains_int_int N) := ⟨⟨Try.f87, _, Try.func87, rfl, by kernel_rfl, by kernel_rfl, rfl, FC.of (cok60 N) (us := u0_slices_Contains_int_int N) (fun u h _ => oku0_slices_Contains_int_int N u h) (fun r x => by kernel_rfl)⟩, by kernel_rfl, by kernel_rfl, by kernel_rfl, by kernel_rfl⟩
noncomputable def fs61 (N : Nat) : List (FE D) := ⟨dslices_Contains_int_int, Fslices_Contains_int_int N⟩ :: fs60 N
theorem all61 (N : Nat) : ∀ y ∈ fs61 N, CallOk X0 y.d y.F := all_cons (x := ⟨dslices_Contains_int_int, Fslices_Contains_int_int N⟩) (oslices_Contains_int_int N) (all60 N)
noncomputable def X61 (N : Nat) : Ev Try.prog D := X0.with (fs61 N)
theorem cok61 (N : Nat) : COk (X61 N) := COk.of (all61 N)
/-! ### (humpyard/rulebook.train).tail -/
noncomputable def u0_train_tail (N : Nat) : List (Pc D) := []
theorem oku0_train_tail (N : Nat) : ∀ u ∈ u0_train_tail N, PcOk (X61 N) (bodyOf Try.f76) u := pc_nil
noncomputable def Ptrain_tail_2 : PD D := { path := [1, 1, 1, 0, 1, 0, 0, 1, 0, 0, 0], ins := [.o 2 (.box 91), .o 3 (.box 75), .v 7 (.int .i64)], fx := [(2, .box 0 0), (3, .box 1 0)], ks := [1, 1], exs := [⟨.normal, [.v 39 .bool], []⟩], keep := [2, 3, 5, 6, 7] }
noncomputable def Ftrain_tail_2 (N : Nat) : Ptrain_tail_2.F := fun x => train_tail_2 N x.1 x.2.2.1
theorem ctrain_tail_2 (N : Nat) : CC (X61 N) (bodyOf Try.f76) Ptrain_tail_2 (Ftrain_tail_2 N) := CC.of (cok61 N) (us := u0_train_tail N) (fun u h _ => oku0_train_tail N u h) (fun x => by kernel_rfl)
noncomputable def utrain_tail_2 (N : Nat) : List (Pc D) := Ptrain_tail_2.pc (X61 N) (Ftrain_tail_2 N) :: u0_train_tail N
theorem okutrain_tail_2 (N : Nat) : ∀ u ∈ utrain_tail_2 N, PcOk (X61 N) (bodyOf Try.f76) u := pc_cons ((ctrain_tail_2 N).pc (by kernel_rfl)) (oku0_train_tail N)
noncomputable def Ptrain_tail_1 : PD D := { path := [1, 1, 1, 0, 1, 0, 0, 1, 0], ins := [.o 2 (.box 91), .o 3 (.box 75), .v 6 (.int .i64), .v 7 (.int .i64)], fx := [(2, .box 0 0), (3, .box 1 0)], ks := [1, 1], exs := [⟨.normal, [.v 6 (.int .i64)], []⟩], keep := [2, 3, 5, 7] }
noncomputable def Ftrain_tail_1 (N : Nat) : Ptrain_tail_1.F := fun x => train_tail_1 N x.1 x.2.2.1 x.2.2.2.1
theorem ctrain_tail_1 (N : Nat) : CC (X61 N) (bodyOf Try.f76) Ptrain_tail_1 (Ftrain_tail_1 N) := CC.of (cok61 N) (us := utrain_tail_2 N) (fun u h _ => okutrain_tail_2 N u h) (fun x => by kernel_rfl)
noncomputable def utrain_tail_1 (N : Nat) : List (Pc D) := Ptrain_tail_1.pc (X61 N) (Ftrain_tail_1 N) :: utrain_tail_2 N
theorem okutrain_tail_1 (N : Nat) : ∀ u ∈ utrain_tail_1 N, PcOk (X61 N) (bodyOf Try.f76) u := pc_cons ((ctrain_tail_1 N).pc (by kernel_rfl)) (okutrain_tail_2 N)
noncomputable def Ptrain_tail_0 : PD D := { path := [1, 1, 1, 0, 1, 0], ins := [.o 2 (.box 91), .o 3 (.box 75), .v 6 (.int .i64), .v 7 (.int .i64)], fx := [(2, .box 0 0), (3, .box 1 0)], ks := [1, 1], exs := [⟨.exit 0, [.v 6 (.int .i64)], []⟩], keep := [3, 5] }
noncomputable def Ftrain_tail_0 (N n : Nat) : Ptrain_tail_0.F := fun x => train_tail_0 N x.1 n x.2.2.1 x.2.2.2.1
theorem ctrain_tail_0 (N n : Nat) : CC (X61 N) (bodyOf Try.f76) Ptrain_tail_0 (Ftrain_tail_0 N n) := CC.loop (cok61 N) (us := utrain_tail_1 N) (c := sub (bodyOf Try.f76) [1, 1, 1, 0, 1, 0, 0]) (by kernel_rfl) (by kernel_rfl) (fun u h _ => okutrain_tail_1 N u h) (fun x => rfl) (fun n x => by kernel_rfl) n
noncomputable def utrain_tail_0 (N : Nat) : List (Pc D) := Ptrain_tail_0.pc (X61 N) (Ftrain_tail_0 N N) :: utrain_tail_1 N
theorem okutrain_tail_0 (N : Nat) : ∀ u ∈ utrain_tail_0 N, PcOk (X61 N) (bodyOf Try.f76) u := pc_cons ((ctrain_tail_0 N N).pc (by kernel_rfl)) (okutrain_tail_1 N)
noncomputable def dtrain_tail : FD D := { f := 76, np := 2, ins := [.v 0 (.agg 91), .v 1 (.agg 75)], fx := [], rcv := none, rk := 0, outs := [.v 4 .bool], ofx := [], rvs := [.tmp 4], flat := true }
noncomputable def Ftrain_tail (N : Nat) : dtrain_tail.F := fun r x => train_tail N x.1 x.2.1
theorem otrain_tail (N : Nat) : FOk Try.prog (X61 N) dtrain_tail (Ftrain_tail N) := ⟨⟨Try.f76, _, Try.func76, rfl, by kernel_rfl, by kernel_rfl, rfl, FC.of (cok61 N) (us := utrain_tail_0 N) (fun u h _ => okutrain_tail_0 N u h) (fun r x => by kernel_rfl)⟩, by kernel_rfl, by kernel_rfl, by kernel_rfl, by kernel_rfl⟩
noncomputable def fs62 (N : Nat) : List (FE D) := ⟨dtrain_tail, Ftrain_tail N⟩ :: fs61 N
theorem all62 (N : Nat) : ∀ y ∈ fs62 N, CallOk X0 y.d y.F := all_cons (x := ⟨dtrain_tail, Ftrain_tail N⟩) (otrain_tail N) (all61 N)
noncomputable def X62 (N : Nat) : Ev Try.prog D := X0.with (fs62 N)
theorem cok62 (N : Nat) : COk (X62 N) := COk.of (all62 N)
/-! ### (humpyard/rulebook.train).place$6 -/
noncomputable def u0_rulebook_train_place_6 (N : Nat) : List (Pc D) := []
theorem oku0_rulebook_train_place_6 (N : Nat) : ∀ u ∈ u0_rulebook_train_place_6 N, PcOk (X62 N) (bodyOf Try.f77) u := pc_nil
noncomputable def drulebook_train_place_6 : FD D := { f := 77, np := 3, ins := [.v 0 (.int .i64), .v 1 (.agg 53), .v 2 (.rp 75)], fx := [], rcv := none, rk := 0, outs := [.v 5 .bool], ofx := [], rvs := [.tmp 5], flat := true }
noncomputable def Frulebook_train_place_6 (N : Nat) : drulebook_train_place_6.F := fun r x => rulebook_train_place_6 N x.2.1 x.2.2.1
theorem orulebook_train_place_6 (N : Nat) : FOk Try.prog (X62 N) drulebook_train_place_6 (Frulebook_train_place_6 N) := ⟨⟨Try.f77, _, Try.func77, rfl, by kernel_rfl, by kernel_rfl, rfl, FC.of (cok62 N) (us := u0_rulebook_train_place_6 N) (fun u h _ => oku0_rulebook_train_place_6 N u h) (fun r x => by kernel_rfl)⟩, by kernel_rfl, by kernel_rfl, by kernel_rfl, by kernel_rfl⟩
noncomputable def fs63 (N : Nat) : List (FE D) := ⟨drulebook_train_place_6, Frulebook_train_place_6 N⟩ :: fs62 N
theorem all63 (N : Nat) : ∀ y ∈ fs63 N, CallOk X0 y.d y.F := all_cons (x := ⟨drulebook_train_place_6, Frulebook_train_place_6 N⟩) (orulebook_train_place_6 N) (all62 N)
noncomputable def X63 (N : Nat) : Ev Try.prog D := X0.with (fs63 N)
theorem cok63 (N : Nat) : COk (X63 N) := COk.of (all63 N)
/-! ### (humpyard/rulebook.train).first -/
noncomputable def u0_train_first__rulebook_train_place_6 (N : Nat) : List (Pc D) := []
theorem oku0_train_first__rulebook_train_place_6 (N : Nat) : ∀ u ∈ u0_train_first__rulebook_train_place_6 N, PcOk (X63 N) (bodyOf Try.f72) u := pc_nil
noncomputable def Ptrain_first__rulebook_train_place_6_0 : PD D := { path := [1, 0, 1, 0], ins := [.v 1 (.fn 77 [75]), .v 8 (.sl 53), .v 9 (.int .i64), .v 10 (.int .i64)], fx := [], ks := [], exs := [⟨.exit 0, [], []⟩, ⟨.ret, [.v 4 (.int .i64)], []⟩], keep := [] }
noncomputable def Ftrain_first__rulebook_train_place_6_0 (N n : Nat) : Ptrain_first__rulebook_train_place_6_0.F := fun x => train_first__rulebook_train_place_6_0 N x.1.1 x.2.1 x.2.2.1 n x.2.2.2.1
theorem ctrain_first__rulebook_train_place_6_0 (N n : Nat) : CC (X63 N) (bodyOf Try.f72) Ptrain_first__rulebook_train_place_6_0 (Ftrain_first__rulebook_train_place_6_0 N n) := CC.loop (cok63 N) (us := u0_train_first__rulebook_train_place_6 N) (c := sub (bodyOf Try.f72) [1, 0, 1, 0, 0]) (by kernel_rfl) (by kernel_rfl) (fun u h _ => oku0_train_first__rulebook_train_place_6 N u h) (fun x => rfl) (fun n x => by kernel_rfl) n
noncomputable def utrain_first__rulebook_train_place_6_0 (N : Nat) : List (Pc D) := Ptrain_first__rulebook_train_place_6_0.pc (X63 N) (Ftrain_first__rulebook_train_place_6_0 N N) :: u0_train_first__rulebook_train_place_6 N
theorem okutrain_first__rulebook_train_place_6_0 (N : Nat) : ∀ u ∈ utrain_first__rulebook_train_place_6_0 N, PcOk (X63 N) (bodyOf Try.f72) u := pc_cons ((ctrain_first__rulebook_train_place_6_0 N N).pc (by kernel_rfl)) (oku0_train_first__rulebook_train_place_6 N)
noncomputable def dtrain_first__rulebook_train_place_6 : FD D := { f := 72, np := 2, ins := [.v 0 (.agg 91), .v 1 (.fn 77 [75])], fx := [], rcv := none, rk := 0, outs := [.v 4 (.int .i64)], ofx := [], rvs := [.tmp 4], flat := true }
noncomputable def Ftrain_first__rulebook_train_place_6 (N : Nat) : dtrain_first__rulebook_train_place_6.F := fun r x => train_first__rulebook_train_place_6 N x.1 x.2.1.1
theorem otrain_first__rulebook_train_place_6 (N : Nat) : FOk Try.prog (X63 N) dtrain_first__rulebook_train_place_6 (Ftrain_first__rulebook_train_place_6 N) := ⟨⟨Try.f72, _, Try.func72, rfl, by kernel_rfl, by kernel_rfl, rfl, FC.of (cok63 N) (us := utrain_first__rulebook_train_place_6_0 N) (fun u h _ => okutrain_first__rulebook_train_place_6_0 N u h) (fun r x => by kernel_rfl)⟩, by kernel_rfl, by kernel_rfl, by kernel_rfl, by kernel_rfl⟩
noncomputable def fs64 (N : Nat) : List (FE D) := ⟨dtrain_first__rulebook_train_place_6, Ftrain_first__rulebook_train_place_6 N⟩ :: fs63 N
theorem all64 (N : Nat) : ∀ y ∈ fs64 N, CallOk X0 y.d y.F := all_cons (x := ⟨dtrain_first__rulebook_train_place_6, Ftrain_first__rulebook_train_place_6 N⟩) (otrain_first__rulebook_train_place_6 N) (all63 N)
noncomputable def X64 (N : Nat) : Ev Try.prog D := X0.with (fs64 N)
theorem cok64 (N : Nat) : COk (X64 N) := COk.of (all64 N)
/-! ### (humpyard/rulebook.train).behind -/
noncomputable def u0_train_behind (N : Nat) : List (Pc D) := []
theorem oku0_train_behind (N : Nat) : ∀ u ∈ u0_train_behind N, PcOk (X64 N) (bodyOf Try.f79) u := pc_nil
noncomputable def Ptrain_behind_0 : PD D := { path := [1, 1, 0, 1, 0], ins := [.v 5 (.int .i64), .v 12 (.sl 53), .v 13 (.int .i64), .v 14 (.int .i64)], fx := [], ks := [], exs := [⟨.exit 0, [.v 5 (.int .i64)], []⟩], keep := [] }
noncomputable def Ftrain_behind_0 (N n : Nat) : Ptrain_behind_0.F := fun x => train_behind_0 N x.2.1 x.2.2.1 n x.1 x.2.2.2.1
theorem ctrain_behind_0 (N n : Nat) : CC (X64 N) (bodyOf Try.f79) Ptrain_behind_0 (Ftrain_behind_0 N n) := CC.loop (cok64 N) (us := u0_train_behind N) (c := sub (bodyOf Try.f79) [1, 1, 0, 1, 0, 0]) (by kernel_rfl) (by kernel_rfl) (fun u h _ => oku0_train_behind N u h) (fun x => rfl) (fun n x => by kernel_rfl) n
noncomputable def utrain_behind_0 (N : Nat) : List (Pc D) := Ptrain_behind_0.pc (X64 N) (Ftrain_behind_0 N N) :: u0_train_behind N
theorem okutrain_behind_0 (N : Nat) : ∀ u ∈ utrain_behind_0 N, PcOk (X64 N) (bodyOf Try.f79) u := pc_cons ((ctrain_behind_0 N N).pc (by kernel_rfl)) (oku0_train_behind N)
noncomputable def dtrain_behind : FD D := { f := 79, np := 2, ins := [.v 0 (.agg 91), .v 1 (.int .i64)], fx := [], rcv := none, rk := 0, outs := [.v 4 (.int .i64)], ofx := [], rvs := [.tmp 4], flat := true }
noncomputable def Ftrain_behind (N : Nat) : dtrain_behind.F := fun r x => train_behind N x.1 x.2.1
theorem otrain_behind (N : Nat) : FOk Try.prog (X64 N) dtrain_behind (Ftrain_behind N) := ⟨⟨Try.f79, _, Try.func79, rfl, by kernel_rfl, by kernel_rfl, rfl, FC.of (cok64 N) (us := utrain_behind_0 N) (fun u h _ => okutrain_behind_0 N u h) (fun r x => by kernel_rfl)⟩, by kernel_rfl, by kernel_rfl, by kernel_rfl, by kernel_rfl⟩
noncomputable def fs65 (N : Nat) : List (FE D) := ⟨dtrain_behind, Ftrain_behind N⟩ :: fs64 N
theorem all65 (N : Nat) : ∀ y ∈ fs65 N, CallOk X0 y.d y.F := all_cons (x := ⟨dtrain_behind, Ftrain_behind N⟩) (otrain_behind N) (all64 N)
noncomputable def X65 (N : Nat) : Ev Try.prog D := X0.with (fs65 N)
theorem cok65 (N : Nat) : COk (X65 N) := COk.of (all65 N)
/-! ### (humpyard/rulebook.train).place$7 -/
noncomputable def u0_rulebook_train_place_7 (N : Nat) : List (Pc D) := []
theorem oku0_rulebook_train_place_7 (N : Nat) : ∀ u ∈ u0_rulebook_train_place_7 N, PcOk (X65 N) (bodyOf Try.f78) u := pc_nil
noncomputable def Prulebook_train_place_7_0 : PD D := { path := [1, 0], ins := [.v 0 (.int .i64), .v 2 (.rp 75), .v 3 (.rp 91), .o 5 (.box 53)], fx := [(5, .box 0 0)], ks := [1], exs := [⟨.normal, [.v 6 .bool], []⟩], keep := [] }
noncomputable def Frulebook_train_place_7_0 (N : Nat) : Prulebook_train_place_7_0.F := fun x => rulebook_train_place_7_0 N x.1 x.2.1 x.2.2.1 x.2.2.2.1
theorem crulebook_train_place_7_0 (N : Nat) : CC (X65 N) (bodyOf Try.f78) Prulebook_train_place_7_0 (Frulebook_train_place_7_0 N) := CC.of (cok65 N) (us := u0_rulebook_train_place_7 N) (fun u h _ => oku0_rulebook_train_place_7 N u h) (fun x => by kernel_rfl)
noncomputable def urulebook_train_place_7_0 (N : Nat) : List (Pc D) := Prulebook_train_place_7_0.pc (X65 N) (Frulebook_train_place_7_0 N) :: u0_rulebook_train_place_7 N
theorem okurulebook_train_place_7_0 (N : Nat) : ∀ u ∈ urulebook_train_place_7_0 N, PcOk (X65 N) (bodyOf Try.f78) u := pc_cons ((crulebook_train_place_7_0 N).pc (by kernel_rfl)) (oku0_rulebook_train_place_7 N)
noncomputable def drulebook_train_place_7 : FD D := { f := 78, np := 4, ins := [.v 0 (.int .i64), .v 1 (.agg 53), .v 2 (.rp 75), .v 3 (.rp 91)], fx := [], rcv := none, rk := 0, outs := [.v 6 .bool], ofx := [], rvs := [.tmp 6], flat := true }
noncomputable def Frulebook_train_place_7 (N : Nat) : drulebook_train_place_7.F := fun r x => rulebook_train_place_7 N x.1 x.2.1 x.2.2.1 x.2.2.2.1
theorem orulebook_train_place_7 (N : Nat) : FOk Try.prog (X65 N) drulebook_train_place_7 (Frulebook_train_place_7 N) := ⟨⟨Try.f78, _, Try.func78, rfl, by kernel_rfl, by kernel_rfl, rfl, FC.of (cok65 N) (us := urulebook_train_place_7_0 N) (fun u h _ => okurulebook_train_place_7_0 N u h) (fun r x => by kernel_rfl)⟩, by kernel_rfl, by kernel_rfl, by kernel_rfl, by kernel_rfl⟩
noncomputable def fs66 (N : Nat) : List (FE D) := ⟨drulebook_train_place_7, Frulebook_train_place_7 N⟩ :: fs65 N
theorem all66 (N : Nat) : ∀ y ∈ fs66 N, CallOk X0 y.d y.F := all_cons (x := ⟨drulebook_train_place_7, Frulebook_train_place_7 N⟩) (orulebook_train_place_7 N) (all65 N)
noncomputable def X66 (N : Nat) : Ev Try.prog D := X0.with (fs66 N)
theorem cok66 (N : Nat) : COk (X66 N) := COk.of (all66 N)
/-! ### (humpyard/rulebook.train).first -/
noncomputable def u0_train_first__rulebook_train_place_7 (N : Nat) : List (Pc D) := []
theorem oku0_train_first__rulebook_train_place_7 (N : Nat) : ∀ u ∈ u0_train_first__rulebook_train_place_7 N, PcOk (X66 N) (bodyOf Try.f72) u := pc_nil
noncomputable def Ptrain_first__rulebook_train_place_7_0 : PD D := { path := [1, 0, 1, 0], ins := [.v 1 (.fn 78 [75, 91]), .v 8 (.sl 53), .v 9 (.int .i64), .v 10 (.int .i64)], fx := [], ks := [], exs := [⟨.exit 0, [], []⟩, ⟨.ret, [.v 4 (.int .i64)], []⟩], keep := [] }
noncomputable def Ftrain_first__rulebook_train_place_7_0 (N n : Nat) : Ptrain_first__rulebook_train_place_7_0.F := fun x => train_first__rulebook_train_place_7_0 N (x.1.1, x.1.2.1) x.2.1 x.2.2.1 n x.2.2.2.1
theorem ctrain_first__rulebook_train_place_7_0 (N n : Nat) : CC (X66 N) (bodyOf Try.f72) Ptrain_first__rulebook_train_place_7_0 (Ftrain_first__rulebook_train_place_7_0 N n) := CC.loop (cok66 N) (us := u0_train_first__rulebook_train_place_7 N) (c := sub (bodyOf Try.f72) [1, 0, 1, 0, 0]) (by kernel_rfl) (by kernel_rfl) (fun u h _ => oku0_train_first__rulebook_train_place_7 N u h) (fun x => rfl) (fun n x => by kernel_rfl) n
noncomputable def utrain_first__rulebook_train_place_7_0 (N : Nat) : List (Pc D) := Ptrain_first__rulebook_train_place_7_0.pc (X66 N) (Ftrain_first__rulebook_train_place_7_0 N N) :: u0_train_first__rulebook_train_place_7 N
theorem okutrain_first__rulebook_train_place_7_0 (N : Nat) : ∀ u ∈ utrain_first__rulebook_train_place_7_0 N, PcOk (X66 N) (bodyOf Try.f72) u := pc_cons ((ctrain_first__rulebook_train_place_7_0 N N).pc (by kernel_rfl)) (oku0_train_first__rulebook_train_place_7 N)
noncomputable def dtrain_first__rulebook_train_place_7 : FD D := { f := 72, np := 2, ins := [.v 0 (.agg 91), .v 1 (.fn 78 [75, 91])], fx := [], rcv := none, rk := 0, outs := [.v 4 (.int .i64)], ofx := [], rvs := [.tmp 4], flat := true }
noncomputable def Ftrain_first__rulebook_train_place_7 (N : Nat) : dtrain_first__rulebook_train_place_7.F := fun r x => train_first__rulebook_train_place_7 N x.1 (x.2.1.1, x.2.1.2.1)
theorem otrain_first__rulebook_train_place_7 (N : Nat) : FOk Try.prog (X66 N) dtrain_first__rulebook_train_place_7 (Ftrain_first__rulebook_train_place_7 N) := ⟨⟨Try.f72, _, Try.func72, rfl, by kernel_rfl, by kernel_rfl, rfl, FC.of (cok66 N) (us := utrain_first__rulebook_train_place_7_0 N) (fun u h _ => okutrain_first__rulebook_train_place_7_0 N u h) (fun r x => by kernel_rfl)⟩, by kernel_rfl, by kernel_rfl, by kernel_rfl, by kernel_rfl⟩
noncomputable def fs67 (N : Nat) : List (FE D) := ⟨dtrain_first__rulebook_train_place_7, Ftrain_first__rulebook_train_place_7 N⟩ :: fs66 N
theorem all67 (N : Nat) : ∀ y ∈ fs67 N, CallOk X0 y.d y.F := all_cons (x := ⟨dtrain_first__rulebook_train_place_7, Ftrain_first__rulebook_train_place_7 N⟩) (otrain_first__rulebook_train_place_7 N) (all66 N)
noncomputable def X67 (N : Nat) : Ev Try.prog D := X0.with (fs67 N)
theorem cok67 (N : Nat) : COk (X67 N) := COk.of (all67 N)
/-! ### (humpyard/rulebook.train).place -/
noncomputable def u0_train_place (N : Nat) : List (Pc D) := []
theorem oku0_train_place (N : Nat) : ∀ u ∈ u0_train_place N, PcOk (X67 N) (bodyOf Try.f43) u := pc_nil
noncomputable def Ptrain_place_0 : PD D := { path := [1, 0, 1, 0, 1, 1, 1, 1, 1, 1, 1, 0, 0], ins := [.o 2 (.box 91), .o 3 (.box 75)], fx := [(2, .box 0 0), (3, .box 1 0)], ks := [1, 1], exs := [⟨.normal, [.v 4 (.int .i64)], []⟩], keep := [] }
noncomputable def Ftrain_place_0 (N : Nat) : Ptrain_place_0.F := fun x => train_place_0 N x.1 x.2.1
theorem ctrain_place_0 (N : Nat) : CC (X67 N) (bodyOf Try.f43) Ptrain_place_0 (Ftrain_place_0 N) := CC.of (cok67 N) (us := u0_train_place N) (fun u h _ => oku0_train_place N u h) (fun x => by kernel_rfl)
noncomputable def utrain_place_0 (N : Nat) : List (Pc D) := Ptrain_place_0.pc (X67 N) (Ftrain_place_0 N) :: u0_train_place N
theorem okutrain_place_0 (N : Nat) : ∀ u ∈ utrain_place_0 N, PcOk (X67 N) (bodyOf Try.f43) u := pc_cons ((ctrain_place_0 N).pc (by kernel_rfl)) (oku0_train_place N)
noncomputable def dtrain_place : FD D := { f := 43, np := 2, ins := [.v 0 (.agg 91), .v 1 (.agg 75)], fx := [], rcv := none, rk := 0, outs := [.v 4 (.int .i64)], ofx := [], rvs := [.tmp 4], flat := true }
noncomputable def Ftrain_place (N : Nat) : dtrain_place.F := fun r x => train_place N x.1 x.2.1
theorem otrain_place (N : Nat) : FOk Try.prog (X67 N) dtrain_place (Ftrain_place N) := ⟨⟨Try.f43, _, Try.func43, rfl, by kernel_rfl, by kernel_rfl, rfl, FC.of (cok67 N) (us := utrain_place_0 N) (fun u h _ => okutrain_place_0 N u h) (fun r x => by kernel_rfl)⟩, by kernel_rfl, by kernel_rfl, by kernel_rfl, by kernel_rfl⟩
noncomputable def fs68 (N : Nat) : List (FE D) := ⟨dtrain_place, Ftrain_place N⟩ :: fs67 N
theorem all68 (N : Nat) : ∀ y ∈ fs68 N, CallOk X0 y.d y.F := all_cons (x := ⟨dtrain_place, Ftrain_place N⟩) (otrain_place N) (all67 N)
noncomputable def X68 (N : Nat) : Ev Try.prog D := X0.with (fs68 N)
theorem cok68 (N : Nat) : COk (X68 N) := COk.of (all68 N)
/-! ### humpyard/rulebook.Check -/
noncomputable def u0_rulebook_Check (N : Nat) : List (Pc D) := []
theorem oku0_rulebook_Check (N : Nat) : ∀ u ∈ u0_rulebook_Check N, PcOk (X68 N) (bodyOf Try.f22) u := pc_nil
noncomputable def Prulebook_Check_0 : PD D := { path := [1, 1, 1, 1, 1, 0, 1, 0], ins := [.o 10 (.box 91), .v 31 (.sl 75), .v 32 (.int .i64), .v 33 (.int .i64)], fx := [(10, .box 0 0)], ks := [1], exs := [⟨.exit 0, [], []⟩, ⟨.ret, [.v 6 (.int .i64), .v 7 (.int .i64), .v 8 (.int .i64)], []⟩], keep := [] }
noncomputable def Frulebook_Check_0 (N n : Nat) : Prulebook_Check_0.F := fun x => rulebook_Check_0 N x.1 x.2.1 x.2.2.1 n x.2.2.2.1
theorem crulebook_Check_0 (N n : Nat) : CC (X68 N) (bodyOf Try.f22) Prulebook_Check_0 (Frulebook_Check_0 N n) := CC.loop (cok68 N) (us := u0_rulebook_Check N) (c := sub (bodyOf Try.f22) [1, 1, 1, 1, 1, 0, 1, 0, 0]) (by kernel_rfl) (by kernel_rfl) (fun u h _ => oku0_rulebook_Check N u h) (fun x => rfl) (fun n x => by kernel_rfl) n
noncomputable def urulebook_Check_0 (N : Nat) : List (Pc D) := Prulebook_Check_0.pc (X68 N) (Frulebook_Check_0 N N) :: u0_rulebook_Check N
theorem okurulebook_Check_0 (N : Nat) : ∀ u ∈ urulebook_Check_0 N, PcOk (X68 N) (bodyOf Try.f22) u := pc_cons ((crulebook_Check_0 N N).pc (by kernel_rfl)) (oku0_rulebook_Check N)
noncomputable def drulebook_Check : FD D := { f := 22, np := 3, ins := [.v 0 (.sl 75), .v 1 (.sl 53), .v 2 (.sl 3)], fx := [], rcv := none, rk := 0, outs := [.v 6 (.int .i64), .v 7 (.int .i64), .v 8 (.int .i64)], ofx := [], rvs := [.tmp 6, .tmp 7, .tmp 8], flat := true }
noncomputable def Frulebook_Check (N : Nat) : drulebook_Check.F := fun r x => rulebook_Check N x.1 x.2.1 x.2.2.1
theorem orulebook_Check (N : Nat) : FOk Try.prog (X68 N) drulebook_Check (Frulebook_Check N) := ⟨⟨Try.f22, _, Try.func22, rfl, by kernel_rfl, by kernel_rfl, rfl, FC.of (cok68 N) (us := urulebook_Check_0 N) (fun u h _ => okurulebook_Check_0 N u h) (fun r x => by kernel_rfl)⟩, by kernel_rfl, by kernel_rfl, by kernel_rfl, by kernel_rfl⟩
noncomputable def fs69 (N : Nat) : List (FE D) := ⟨drulebook_Check, Frulebook_Check N⟩ :: fs68 N
theorem all69 (N : Nat) : ∀ y ∈ fs69 N, CallOk X0 y.d y.F := all_cons (x := ⟨drulebook_Check, Frulebook_Check N⟩) (orulebook_Check N) (all68 N)
noncomputable def X69 (N : Nat) : Ev Try.prog D := X0.with (fs69 N)
theorem cok69 (N : Nat) : COk (X69 N) := COk.of (all69 N)
/-! ### humpyard/setout.check -/
noncomputable def u0_setout_check (N : Nat) : List (Pc D) := []
theorem oku0_setout_check (N : Nat) : ∀ u ∈ u0_setout_check N, PcOk (X69 N) (bodyOf Try.f44) u := pc_nil
noncomputable def Psetout_check_1 : PD D := { path := [1, 1, 0, 1, 0, 0, 1, 1, 0, 0, 1, 0], ins := [.v 1 (.int .i64), .v 6 (.int .i64)], fx := [], ks := [], exs := [⟨.normal, [.v 22 .bool], []⟩], keep := [1, 10, 11, 12] }
noncomputable def Fsetout_check_1 (N : Nat) : Psetout_check_1.F := fun x => setout_check_1 N x.1 x.2.1
theorem csetout_check_1 (N : Nat) : CC (X69 N) (bodyOf Try.f44) Psetout_check_1 (Fsetout_check_1 N) := CC.of (cok69 N) (us := u0_setout_check N) (fun u h _ => oku0_setout_check N u h) (fun x => by kernel_rfl)
noncomputable def usetout_check_1 (N : Nat) : List (Pc D) := Psetout_check_1.pc (X69 N) (Fsetout_check_1 N) :: u0_setout_check N
theorem okusetout_check_1 (N : Nat) : ∀ u ∈ usetout_check_1 N, PcOk (X69 N) (bodyOf Try.f44) u := pc_cons ((csetout_check_1 N).pc (by kernel_rfl)) (oku0_setout_check N)
noncomputable def Psetout_check_0 : PD D := { path := [1, 1, 0, 1, 0], ins := [.v 1 (.int .i64), .v 10 (.sl 3), .v 11 (.int .i64), .v 12 (.int .i64)], fx := [], ks := [], exs := [⟨.exit 0, [], []⟩, ⟨.ret, [.v 4 (.int .i64)], []⟩], keep := [] }
noncomputable def Fsetout_check_0 (N n : Nat) : Psetout_check_0.F := fun x => setout_check_0 N x.1 x.2.1 x.2.2.1 n x.2.2.2.1
theorem csetout_check_0 (N n : Nat) : CC (X69 N) (bodyOf Try.f44) Psetout_check_0 (Fsetout_check_0 N n) := CC.loop (cok69 N) (us := usetout_check_1 N) (c := sub (bodyOf Try.f44) [1, 1, 0, 1, 0, 0]) (by kernel_rfl) (by kernel_rfl) (fun u h _ => okusetout_check_1 N u h) (fun x => rfl) (fun n x => by kernel_rfl) n
noncomputable def usetout_check_0 (N : Nat) : List (Pc D) := Psetout_check_0.pc (X69 N) (Fsetout_check_0 N N) :: usetout_check_1 N
theorem okusetout_check_0 (N : Nat) : ∀ u ∈ usetout_check_0 N, PcOk (X69 N) (bodyOf Try.f44) u := pc_cons ((csetout_check_0 N N).pc (by kernel_rfl)) (okusetout_check_1 N)
noncomputable def dsetout_check : FD D := { f := 44, np := 2, ins := [.v 0 (.sl 3), .v 1 (.int .i64)], fx := [], rcv := none, rk := 0, outs := [.v 4 (.int .i64)], ofx := [], rvs := [.tmp 4], flat := true }
noncomputable def Fsetout_check (N : Nat) : dsetout_check.F := fun r x => setout_check N x.1 x.2.1
theorem osetout_check (N : Nat) : FOk Try.prog (X69 N) dsetout_check (Fsetout_check N) := ⟨⟨Try.f44, _, Try.func44, rfl, by kernel_rfl, by kernel_rfl, rfl, FC.of (cok69 N) (us := usetout_check_0 N) (fun u h _ => okusetout_check_0 N u h) (fun r x => by kernel_rfl)⟩, by kernel_rfl, by kernel_rfl, by kernel_rfl, by kernel_rfl⟩
noncomputable def fs70 (N : Nat) : List (FE D) := ⟨dsetout_check, Fsetout_check N⟩ :: fs69 N
theorem all70 (N : Nat) : ∀ y ∈ fs70 N, CallOk X0 y.d y.F := all_cons (x := ⟨dsetout_check, Fsetout_check N⟩) (osetout_check N) (all69 N)
noncomputable def X70 (N : Nat) : Ev Try.prog D := X0.with (fs70 N)
theorem cok70 (N : Nat) : COk (X70 N) := COk.of (all70 N)
/-! ### humpyard/setout.plan -/
noncomputable def u0_setout_plan (N : Nat) : List (Pc D) := []
theorem oku0_setout_plan (N : Nat) : ∀ u ∈ u0_setout_plan N, PcOk (X70 N) (bodyOf Try.f45) u := pc_nil
noncomputable def Psetout_plan_3 : PD D := { path := [1, 1, 1, 0, 1, 0, 0, 1, 1, 0, 0, 1, 1, 1, 0, 1, 0, 0, 1, 1, 0, 0, 1, 1, 1, 0], ins := [.o 5 (.sl 51), .v 6 (.sl 3), .v 7 (.int .i64), .o 8 (.box 51), .o 9 (.sl 3), .v 10 (.int .i64)], fx := [(5, .c (.own 0)), (8, .box 1 0), (9, .c (.own 2))], ks := [1, 1, 1], exs := [⟨.normal, [.v 47 .bool], []⟩], keep := [5, 6, 7, 8, 9, 13, 14, 19, 20, 21] }
noncomputable def Fsetout_plan_3 (N : Nat) : Psetout_plan_3.F := fun x => setout_plan_3 N x.2.1 x.2.2.1 x.2.2.2.2.2.1
theorem csetout_plan_3 (N : Nat) : CC (X70 N) (bodyOf Try.f45) Psetout_plan_3 (Fsetout_plan_3 N) := CC.of (cok70 N) (us := u0_setout_plan N) (fun u h _ => oku0_setout_plan N u h) (fun x => by kernel_rfl)
noncomputable def usetout_plan_3 (N : Nat) : List (Pc D) := Psetout_plan_3.pc (X70 N) (Fsetout_plan_3 N) :: u0_setout_plan N
theorem okusetout_plan_3 (N : Nat) : ∀ u ∈ usetout_plan_3 N, PcOk (X70 N) (bodyOf Try.f45) u := pc_cons ((csetout_plan_3 N).pc (by kernel_rfl)) (oku0_setout_plan N)
noncomputable def Psetout_plan_2 : PD D := { path := [1, 1, 1, 0, 1, 0, 0, 1, 1, 0, 0, 1, 1, 1, 0, 1, 0, 0, 1, 1, 0], ins := [.o 5 (.sl 51), .v 6 (.sl 3), .v 7 (.int .i64), .o 8 (.box 51), .o 9 (.sl 3), .v 19 (.sl 3), .v 21 (.int .i64)], fx := [(5, .c (.own 0)), (8, .box 1 0), (9, .c (.own 2))], ks := [1, 2, 0], exs := [⟨.normal, [.u 1 (.box 51), .o 9 (.sl 3)], [(9, .c (.own 3))]⟩], keep := [5, 6, 7, 8, 13, 14, 19, 20, 21] }
noncomputable def Fsetout_plan_2 (N : Nat) : Psetout_plan_2.F := fun x => setout_plan_2 N x.2.1 x.2.2.1 x.2.2.2.1 x.2.2.2.2.1 x.2.2.2.2.2.1 x.2.2.2.2.2.2.1
theorem csetout_plan_2 (N : Nat) : CC (X70 N) (bodyOf Try.f45) Psetout_plan_2 (Fsetout_plan_2 N) := CC.of (cok70 N) (us := usetout_plan_3 N) (fun u h _ => okusetout_plan_3 N u h) (fun x => by kernel_rfl)
noncomputable def usetout_plan_2 (N : Nat) : List (Pc D) := Psetout_plan_2.pc (X70 N) (Fsetout_plan_2 N) :: usetout_plan_3 N
theorem okusetout_plan_2 (N : Nat) : ∀ u ∈ usetout_plan_2 N, PcOk (X70 N) (bodyOf Try.f45) u := pc_cons ((csetout_plan_2 N).pc (by kernel_rfl)) (okusetout_plan_3 N)
noncomputable def Psetout_plan_1 : PD D := { path := [1, 1, 1, 0, 1, 0, 0, 1, 1, 0, 0, 1, 1, 1, 0, 1, 0], ins := [.o 5 (.sl 51), .v 6 (.sl 3), .v 7 (.int .i64), .o 8 (.box 51), .o 9 (.sl 3), .v 19 (.sl 3), .v 20 (.int .i64), .v 21 (.int .i64)], fx := [(5, .c (.own 0)), (8, .box 1 0), (9, .c (.own 2))], ks := [1, 2, 0], exs := [⟨.exit 2, [.u 1 (.box 51), .o 9 (.sl 3)], [(9, .c (.own 3))]⟩], keep := [5, 8, 13, 14] }
noncomputable def Fsetout_plan_1 (N n : Nat) : Psetout_plan_1.F := fun x => setout_plan_1 N x.2.1 x.2.2.1 x.2.2.2.2.2.1 x.2.2.2.2.2.2.1 n x.2.2.2.1 x.2.2.2.2.1 x.2.2.2.2.2.2.2.1
theorem csetout_plan_1 (N n : Nat) : CC (X70 N) (bodyOf Try.f45) Psetout_plan_1 (Fsetout_plan_1 N n) := CC.loop (cok70 N) (us := usetout_plan_2 N) (c := sub (bodyOf Try.f45) [1, 1, 1, 0, 1, 0, 0, 1, 1, 0, 0, 1, 1, 1, 0, 1, 0, 0]) (by kernel_rfl) (by kernel_rfl) (fun u h _ => okusetout_plan_2 N u h) (fun x => rfl) (fun n x => by kernel_rfl) n
noncomputable def usetout_plan_1 (N : Nat) : List (Pc D) := Psetout_plan_1.pc (X70 N) (Fsetout_plan_1 N N) :: usetout_plan_2 N
theorem okusetout_plan_1 (N : Nat) : ∀ u ∈ usetout_plan_1 N, PcOk (X70 N) (bodyOf Try.f45) u := pc_cons ((csetout_plan_1 N N).pc (by kernel_rfl)) (okusetout_plan_2 N)
noncomputable def Psetout_plan_4 : PD D := { path := [1, 1, 1, 0, 1, 0, 0, 1, 1, 0, 0, 1, 1, 1, 1, 0, 1], ins := [.o 5 (.sl 51), .o 8 (.box 51), .o 9 (.sl 3), .v 55 .bool], fx := [(5, .c (.own 0)), (8, .box 1 0), (9, .c (.own 2))], ks := [0, 1, 1], exs := [⟨.normal, [.o 5 (.sl 51)], [(5, .c (.own 3))]⟩], keep := [9, 13, 14] }
noncomputable def Fsetout_plan_4 (N : Nat) : Psetout_plan_4.F := fun x => setout_plan_4 N x.1 x.2.1 x.2.2.2.1
theorem csetout_plan_4 (N : Nat) : CC (X70 N) (bodyOf Try.f45) Psetout_plan_4 (Fsetout_plan_4 N) := CC.of (cok70 N) (us := usetout_plan_1 N) (fun u h _ => okusetout_plan_1 N u h) (fun x => by kernel_rfl)
noncomputable def usetout_plan_4 (N : Nat) : List (Pc D) := Psetout_plan_4.pc (X70 N) (Fsetout_plan_4 N) :: usetout_plan_1 N
theorem okusetout_plan_4 (N : Nat) : ∀ u ∈ usetout_plan_4 N, PcOk (X70 N) (bodyOf Try.f45) u := pc_cons ((csetout_plan_4 N).pc (by kernel_rfl)) (okusetout_plan_1 N)
noncomputable def Psetout_plan_0 : PD D := { path := [1, 1, 1, 0, 1, 0], ins := [.o 5 (.sl 51), .v 6 (.sl 3), .v 13 (.int .i64), .v 14 (.int .i64)], fx := [(5, .c (.own 0))], ks := [0], exs := [⟨.exit 0, [.o 5 (.sl 51)], [(5, .c (.own 1))]⟩], keep := [] }
noncomputable def Fsetout_plan_0 (N n : Nat) : Psetout_plan_0.F := fun x => setout_plan_0 N x.2.2.1 n x.1 x.2.1 x.2.2.2.1
theorem csetout_plan_0 (N n : Nat) : CC (X70 N) (bodyOf Try.f45) Psetout_plan_0 (Fsetout_plan_0 N n) := CC.loop (cok70 N) (us := usetout_plan_4 N) (c := sub (bodyOf Try.f45) [1, 1, 1, 0, 1, 0, 0]) (by kernel_rfl) (by kernel_rfl) (fun u h _ => okusetout_plan_4 N u h) (fun x => rfl) (fun n x => by kernel_rfl) n
noncomputable def usetout_plan_0 (N : Nat) : List (Pc D) := Psetout_plan_0.pc (X70 N) (Fsetout_plan_0 N N) :: usetout_plan_4 N
theorem okusetout_plan_0 (N : Nat) : ∀ u ∈ usetout_plan_0 N, PcOk (X70 N) (bodyOf Try.f45) u := pc_cons ((csetout_plan_0 N N).pc (by kernel_rfl)) (okusetout_plan_4 N)
noncomputable def dsetout_plan : FD D := { f := 45, np := 2, ins := [.v 0 (.sl 3), .v 1 (.int .i64)], fx := [], rcv := none, rk := 0, outs := [.o 4 (.sl 51)], ofx := [(4, .c (.own 0))], rvs := [.tmp 4], flat := false }
noncomputable def Fsetout_plan (N : Nat) : dsetout_plan.F := fun r x => setout_plan N x.1 x.2.1
theorem osetout_plan (N : Nat) : FOk Try.prog (X70 N) dsetout_plan (Fsetout_plan N) := ⟨⟨Try.f45, _, Try.func45, rfl, by kernel_rfl, by kernel_rfl, rfl, FC.of (cok70 N) (us := usetout_plan_0 N) (fun u h _ => okusetout_plan_0 N u h) (fun r x => by kernel_rfl)⟩, by kernel_rfl, by kernel_rfl, by kernel_rfl, by kernel_rfl⟩
noncomputable def fs71 (N : Nat) : List (FE D) := ⟨dsetout_plan, Fsetout_plan N⟩ :: fs70 N
theorem all71 (N : Nat) : ∀ y ∈ fs71 N, CallOk X0 y.d y.F := all_cons (x := ⟨dsetout_plan, Fsetout_plan N⟩) (osetout_plan N) (all70 N)
noncomputable def X71 (N : Nat) : Ev Try.prog D := X0.with (fs71 N)
theorem cok71 (N : Nat) : COk (X71 N) := COk.of (all71 N)
/-! ### humpyard/setout.Plan -/
noncomputable def u0_setout_Plan (N : Nat) : List (Pc D) := []
theorem oku0_setout_Plan (N : Nat) : ∀ u ∈ u0_setout_Plan N, PcOk (X71 N) (bodyOf Try.f23) u := pc_nil
noncomputable def Psetout_Plan_0 : PD D := { path := [1, 0, 0], ins := [.v 1 (.int .i64)], fx := [], ks := [], exs := [⟨.normal, [.v 12 .bool], []⟩], keep := [0, 1] }
noncomputable def Fsetout_Plan_0 (N : Nat) : Psetout_Plan_0.F := fun x => setout_Plan_0 N x.1
theorem csetout_Plan_0 (N : Nat) : CC (X71 N) (bodyOf Try.f23) Psetout_Plan_0 (Fsetout_Plan_0 N) := CC.of (cok71 N) (us := u0_setout_Plan N) (fun u h _ => oku0_setout_Plan N u h) (fun x => by kernel_rfl)
noncomputable def usetout_Plan_0 (N : Nat) : List (Pc D) := Psetout_Plan_0.pc (X71 N) (Fsetout_Plan_0 N) :: u0_setout_Plan N
theorem okusetout_Plan_0 (N : Nat) : ∀ u ∈ usetout_Plan_0 N, PcOk (X71 N) (bodyOf Try.f23) u := pc_cons ((csetout_Plan_0 N).pc (by kernel_rfl)) (oku0_setout_Plan N)
noncomputable def dsetout_Plan : FD D := { f := 23, np := 2, ins := [.v 0 (.sl 3), .v 1 (.int .i64)], fx := [], rcv := none, rk := 0, outs := [.o 4 (.sl 51), .v 5 (.int .i64)], ofx := [(4, .c (.own 0))], rvs := [.tmp 4, .tmp 5], flat := false }
noncomputable def Fsetout_Plan (N : Nat) : dsetout_Plan.F := fun r x => setout_Plan N x.1 x.2.1
theorem osetout_Plan (N : Nat) : FOk Try.prog (X71 N) dsetout_Plan (Fsetout_Plan N) := ⟨⟨Try.f23, _, Try.func23, rfl, by kernel_rfl, by kernel_rfl, rfl, FC.of (cok71 N) (us := usetout_Plan_0 N) (fun u h _ => okusetout_Plan_0 N u h) (fun r x => by kernel_rfl)⟩, by kernel_rfl, by kernel_rfl, by kernel_rfl, by kernel_rfl⟩
noncomputable def fs72 (N : Nat) : List (FE D) := ⟨dsetout_Plan, Fsetout_Plan N⟩ :: fs71 N
theorem all72 (N : Nat) : ∀ y ∈ fs72 N, CallOk X0 y.d y.F := all_cons (x := ⟨dsetout_Plan, Fsetout_Plan N⟩) (osetout_Plan N) (all71 N)
noncomputable def X72 (N : Nat) : Ev Try.prog D := X0.with (fs72 N)
theorem cok72 (N : Nat) : COk (X72 N) := COk.of (all72 N)
/-! ### slices.Clone[[]humpyard/api.Wagon,humpyard/api.Wagon] -/
noncomputable def u0_slices_Clone_api_Wagon_api_Wagon (N : Nat) : List (Pc D) := []
theorem oku0_slices_Clone_api_Wagon_api_Wagon (N : Nat) : ∀ u ∈ u0_slices_Clone_api_Wagon_api_Wagon N, PcOk (X72 N) (bodyOf Try.f24) u := pc_nil
noncomputable def dslices_Clone_api_Wagon_api_Wagon : FD D := { f := 24, np := 1, ins := [.v 0 (.sl 53)], fx := [], rcv := none, rk := 0, outs := [.o 2 (.sl 53)], ofx := [(2, .c (.own 0))], rvs := [.tmp 2], flat := false }
noncomputable def Fslices_Clone_api_Wagon_api_Wagon (N : Nat) : dslices_Clone_api_Wagon_api_Wagon.F := fun r x => slices_Clone_api_Wagon_api_Wagon N x.1
theorem oslices_Clone_api_Wagon_api_Wagon (N : Nat) : FOk Try.prog (X72 N) dslices_Clone_api_Wagon_api_Wagon (Fslices_Clone_api_Wagon_api_Wagon N) := ⟨⟨Try.f24, _, Try.func24, rfl, by kernel_rfl, by kernel_rfl, rfl, FC.of (cok72 N) (us := u0_slices_Clone_api_Wagon_api_Wagon N) (fun u h _ => oku0_slices_Clone_api_Wagon_api_Wagon N u h) (fun r x => by kernel_rfl)⟩, by kernel_rfl, by kernel_rfl, by kernel_rfl, by kernel_rfl⟩
noncomputable def fs73 (N : Nat) : List (FE D) := ⟨dslices_Clone_api_Wagon_api_Wagon, Fslices_Clone_api_Wagon_api_Wagon N⟩ :: fs72 N
theorem all73 (N : Nat) : ∀ y ∈ fs73 N, CallOk X0 y.d y.F := all_cons (x := ⟨dslices_Clone_api_Wagon_api_Wagon, Fslices_Clone_api_Wagon_api_Wagon N⟩) (oslices_Clone_api_Wagon_api_Wagon N) (all72 N)
noncomputable def X73 (N : Nat) : Ev Try.prog D := X0.with (fs73 N)
theorem cok73 (N : Nat) : COk (X73 N) := COk.of (all73 N)
/-! ### humpyard/trainbuild.Build -/
noncomputable def u0_trainbuild_Build (N : Nat) : List (Pc D) := []
theorem oku0_trainbuild_Build (N : Nat) : ∀ u ∈ u0_trainbuild_Build N, PcOk (X73 N) (bodyOf Try.f8) u := pc_nil
noncomputable def Ptrainbuild_Build_0 : PD D := { path := [1, 1, 1, 1, 1, 1, 1, 1, 1, 1, 1, 1, 0, 1, 0], ins := [.o 4 (.box 32), .o 6 (.box 40), .o 11 (.box 37), .o 12 (.sl 3), .o 81 (.sl 3), .v 82 (.int .i64), .v 83 (.int .i64)], fx := [(4, .box 0 0), (6, .box 1 0), (11, .box 2 0), (12, .c (.own 3)), (81, .c (.own 4))], ks := [1, 1, 1, 2, 1], exs := [⟨.exit 0, [.u 3 (.sl 3)], []⟩], keep := [2, 4, 6, 11, 12] }
noncomputable def Ftrainbuild_Build_0 (N n : Nat) : Ptrainbuild_Build_0.F := fun x => trainbuild_Build_0 N x.1 x.2.2.2.2.1 x.2.2.2.2.2.1 n x.2.2.2.1 x.2.2.2.2.2.2.1
theorem ctrainbuild_Build_0 (N n : Nat) : CC (X73 N) (bodyOf Try.f8) Ptrainbuild_Build_0 (Ftrainbuild_Build_0 N n) := CC.loop (cok73 N) (us := u0_trainbuild_Build N) (c := sub (bodyOf Try.f8) [1, 1, 1, 1, 1, 1, 1, 1, 1, 1, 1, 1, 0, 1, 0, 0]) (by kernel_rfl) (by kernel_rfl) (fun u h _ => oku0_trainbuild_Build N u h) (fun x => rfl) (fun n x => by kernel_rfl) n
noncomputable def utrainbuild_Build_0 (N : Nat) : List (Pc D) := Ptrainbuild_Build_0.pc (X73 N) (Ftrainbuild_Build_0 N N) :: u0_trainbuild_Build N
theorem okutrainbuild_Build_0 (N : Nat) : ∀ u ∈ utrainbuild_Build_0 N, PcOk (X73 N) (bodyOf Try.f8) u := pc_cons ((ctrainbuild_Build_0 N N).pc (by kernel_rfl)) (oku0_trainbuild_Build N)
noncomputable def dtrainbuild_Build : FD D := { f := 8, np := 3, ins := [.v 0 (.agg 29), .v 1 (.agg 32), .v 2 (.sl 53)], fx := [], rcv := none, rk := 0, outs := [.v 1000000 (.agg 40), .v 7 (.int .i64), .v 8 (.int .i64), .v 9 (.int .i64)], ofx := [], rvs := [.cell 6 40, .tmp 7, .tmp 8, .tmp 9], flat := false }
noncomputable def Ftrainbuild_Build (N : Nat) : dtrainbuild_Build.F := fun r x => trainbuild_Build N x.1 x.2.1 x.2.2.1
theorem otrainbuild_Build (N : Nat) : FOk Try.prog (X73 N) dtrainbuild_Build (Ftrainbuild_Build N) := ⟨⟨Try.f8, _, Try.func8, rfl, by kernel_rfl, by kernel_rfl, rfl, FC.of (cok73 N) (us := utrainbuild_Build_0 N) (fun u h _ => okutrainbuild_Build_0 N u h) (fun r x => by kernel_rfl)⟩, by kernel_rfl, by kernel_rfl, by kernel_rfl, by kernel_rfl⟩
noncomputable def fs74 (N : Nat) : List (FE D) := ⟨dtrainbuild_Build, Ftrainbuild_Build N⟩ :: fs73 N
theorem all74 (N : Nat) : ∀ y ∈ fs74 N, CallOk X0 y.d y.F := all_cons (x := ⟨dtrainbuild_Build, Ftrainbuild_Build N⟩) (otrainbuild_Build N) (all73 N)
noncomputable def X74 (N : Nat) : Ev Try.prog D := X0.with (fs74 N)
theorem cok74 (N : Nat) : COk (X74 N) := COk.of (all74 N)
/-! ### humpyard/humpyardlaw37.wagon -/
noncomputable def u0_l37_wagon (N : Nat) : List (Pc D) := []
theorem oku0_l37_wagon (N : Nat) : ∀ u ∈ u0_l37_wagon N, PcOk (X74 N) (bodyOf Try.f25) u := pc_nil
noncomputable def dl37_wagon : FD D := { f := 25, np := 2, ins := [.v 0 (.int .i64), .v 1 .str], fx := [], rcv := none, rk := 0, outs := [.v 1000000 (.agg 53)], ofx := [], rvs := [.cell 4 53], flat := true }
noncomputable def Fl37_wagon (N : Nat) : dl37_wagon.F := fun r x => l37_wagon N x.1 x.2.1
theorem ol37_wagon (N : Nat) : FOk Try.prog (X74 N) dl37_wagon (Fl37_wagon N) := ⟨⟨Try.f25, _, Try.func25, rfl, by kernel_rfl, by kernel_rfl, rfl, FC.of (cok74 N) (us := u0_l37_wagon N) (fun u h _ => oku0_l37_wagon N u h) (fun r x => by kernel_rfl)⟩, by kernel_rfl, by kernel_rfl, by kernel_rfl, by kernel_rfl⟩
noncomputable def fs75 (N : Nat) : List (FE D) := ⟨dl37_wagon, Fl37_wagon N⟩ :: fs74 N
theorem all75 (N : Nat) : ∀ y ∈ fs75 N, CallOk X0 y.d y.F := all_cons (x := ⟨dl37_wagon, Fl37_wagon N⟩) (ol37_wagon N) (all74 N)
noncomputable def X75 (N : Nat) : Ev Try.prog D := X0.with (fs75 N)
theorem cok75 (N : Nat) : COk (X75 N) := COk.of (all75 N)
/-! ### humpyard/trainbuild.Longest -/
noncomputable def u0_trainbuild_Longest (N : Nat) : List (Pc D) := []
theorem oku0_trainbuild_Longest (N : Nat) : ∀ u ∈ u0_trainbuild_Longest N, PcOk (X75 N) (bodyOf Try.f14) u := pc_nil
noncomputable def Ptrainbuild_Longest_0 : PD D := { path := [1, 1, 0, 1, 0], ins := [.v 2 (.sl 53), .o 3 (.box 29), .o 4 (.box 32), .v 9 (.int .i64)], fx := [(3, .box 0 0), (4, .box 1 0)], ks := [1, 1], exs := [⟨.exit 0, [], []⟩, ⟨.ret, [.v 6 (.int .i64), .v 7 (.int .i64)], []⟩], keep := [] }
noncomputable def Ftrainbuild_Longest_0 (N n : Nat) : Ptrainbuild_Longest_0.F := fun x => trainbuild_Longest_0 N x.1 x.2.1 x.2.2.1 n x.2.2.2.1
theorem ctrainbuild_Longest_0 (N n : Nat) : CC (X75 N) (bodyOf Try.f14) Ptrainbuild_Longest_0 (Ftrainbuild_Longest_0 N n) := CC.loop (cok75 N) (us := u0_trainbuild_Longest N) (c := sub (bodyOf Try.f14) [1, 1, 0, 1, 0, 0]) (by kernel_rfl) (by kernel_rfl) (fun u h _ => oku0_trainbuild_Longest N u h) (fun x => rfl) (fun n x => by kernel_rfl) n
noncomputable def utrainbuild_Longest_0 (N : Nat) : List (Pc D) := Ptrainbuild_Longest_0.pc (X75 N) (Ftrainbuild_Longest_0 N N) :: u0_trainbuild_Longest N
theorem okutrainbuild_Longest_0 (N : Nat) : ∀ u ∈ utrainbuild_Longest_0 N, PcOk (X75 N) (bodyOf Try.f14) u := pc_cons ((ctrainbuild_Longest_0 N N).pc (by kernel_rfl)) (oku0_trainbuild_Longest N)
noncomputable def dtrainbuild_Longest : FD D := { f := 14, np := 3, ins := [.v 0 (.agg 29), .v 1 (.agg 32), .v 2 (.sl 53)], fx := [], rcv := none, rk := 0, outs := [.v 6 (.int .i64), .v 7 (.int .i64)], ofx := [], rvs := [.tmp 6, .tmp 7], flat := true }
noncomputable def Ftrainbuild_Longest (N : Nat) : dtrainbuild_Longest.F := fun r x => trainbuild_Longest N x.1 x.2.1 x.2.2.1
theorem otrainbuild_Longest (N : Nat) : FOk Try.prog (X75 N) dtrainbuild_Longest (Ftrainbuild_Longest N) := ⟨⟨Try.f14, _, Try.func14, rfl, by kernel_rfl, by kernel_rfl, rfl, FC.of (cok75 N) (us := utrainbuild_Longest_0 N) (fun u h _ => okutrainbuild_Longest_0 N u h) (fun r x => by kernel_rfl)⟩, by kernel_rfl, by kernel_rfl, by kernel_rfl, by kernel_rfl⟩
noncomputable def fs76 (N : Nat) : List (FE D) := ⟨dtrainbuild_Longest, Ftrainbuild_Longest N⟩ :: fs75 N
theorem all76 (N : Nat) : ∀ y ∈ fs76 N, CallOk X0 y.d y.F := all_cons (x := ⟨dtrainbuild_Longest, Ftrainbuild_Longest N⟩) (otrainbuild_Longest N) (all75 N)
noncomputable def X76 (N : Nat) : Ev Try.prog D := X0.with (fs76 N)
theorem cok76 (N : Nat) : COk (X76 N) := COk.of (all76 N)
/-! ### humpyard/yardgen.SameSetOuts -/
noncomputable def u0_yardgen_SameSetOuts (N : Nat) : List (Pc D) := []
theorem oku0_yardgen_SameSetOuts (N : Nat) : ∀ u ∈ u0_yardgen_SameSetOuts N, PcOk (X76 N) (bodyOf Try.f26) u := pc_nil
noncomputable def Pyardgen_SameSetOuts_0 : PD D := { path := [1, 1, 0, 1, 0], ins := [.v 0 (.sl 51), .v 1 (.sl 51), .v 5 (.int .i64)], fx := [], ks := [], exs := [⟨.exit 0, [], []⟩, ⟨.ret, [.v 4 .bool], []⟩], keep := [] }
noncomputable def Fyardgen_SameSetOuts_0 (N n : Nat) : Pyardgen_SameSetOuts_0.F := fun x => yardgen_SameSetOuts_0 N x.1 x.2.1 n x.2.2.1
theorem cyardgen_SameSetOuts_0 (N n : Nat) : CC (X76 N) (bodyOf Try.f26) Pyardgen_SameSetOuts_0 (Fyardgen_SameSetOuts_0 N n) := CC.loop (cok76 N) (us := u0_yardgen_SameSetOuts N) (c := sub (bodyOf Try.f26) [1, 1, 0, 1, 0, 0]) (by kernel_rfl) (by kernel_rfl) (fun u h _ => oku0_yardgen_SameSetOuts N u h) (fun x => rfl) (fun n x => by kernel_rfl) n
noncomputable def uyardgen_SameSetOuts_0 (N : Nat) : List (Pc D) := Pyardgen_SameSetOuts_0.pc (X76 N) (Fyardgen_SameSetOuts_0 N N) :: u0_yardgen_SameSetOuts N
theorem okuyardgen_SameSetOuts_0 (N : Nat) : ∀ u ∈ uyardgen_SameSetOuts_0 N, PcOk (X76 N) (bodyOf Try.f26) u := pc_cons ((cyardgen_SameSetOuts_0 N N).pc (by kernel_rfl)) (oku0_yardgen_SameSetOuts N)
noncomputable def dyardgen_SameSetOuts : FD D := { f := 26, np := 2, ins := [.v 0 (.sl 51), .v 1 (.sl 51)], fx := [], rcv := none, rk := 0, outs := [.v 4 .bool], ofx := [], rvs := [.tmp 4], flat := true }
noncomputable def Fyardgen_SameSetOuts (N : Nat) : dyardgen_SameSetOuts.F := fun r x => yardgen_SameSetOuts N x.1 x.2.1
theorem oyardgen_SameSetOuts (N : Nat) : FOk Try.prog (X76 N) dyardgen_SameSetOuts (Fyardgen_SameSetOuts N) := ⟨⟨Try.f26, _, Try.func26, rfl, by kernel_rfl, by kernel_rfl, rfl, FC.of (cok76 N) (us := uyardgen_SameSetOuts_0 N) (fun u h _ => okuyardgen_SameSetOuts_0 N u h) (fun r x => by kernel_rfl)⟩, by kernel_rfl, by kernel_rfl, by kernel_rfl, by kernel_rfl⟩
noncomputable def fs77 (N : Nat) : List (FE D) := ⟨dyardgen_SameSetOuts, Fyardgen_SameSetOuts N⟩ :: fs76 N
theorem all77 (N : Nat) : ∀ y ∈ fs77 N, CallOk X0 y.d y.F := all_cons (x := ⟨dyardgen_SameSetOuts, Fyardgen_SameSetOuts N⟩) (oyardgen_SameSetOuts N) (all76 N)
noncomputable def X77 (N : Nat) : Ev Try.prog D := X0.with (fs77 N)
theorem cok77 (N : Nat) : COk (X77 N) := COk.of (all77 N)
/-! ### humpyard/humpyardlaw37.sane -/
noncomputable def u0_l37_sane (N : Nat) : List (Pc D) := []
theorem oku0_l37_sane (N : Nat) : ∀ u ∈ u0_l37_sane N, PcOk (X77 N) (bodyOf Try.f9) u := pc_nil
noncomputable def Pl37_sane_0 : PD D := { path := [1, 1, 1, 1, 1, 1, 1, 1, 1, 0], ins := [.o 4 (.box 40), .v 7 (.int .i64), .v 10 (.int .i64), .v 11 (.int .i64), .v 13 (.int .i64), .v 14 (.int .i64), .v 15 (.int .i64), .v 16 (.int .i64), .v 17 (.int .i64)], fx := [(4, .box 0 0)], ks := [1], exs := [⟨.normal, [.v 0 .bool], []⟩], keep := [] }
noncomputable def Fl37_sane_0 (N : Nat) : Pl37_sane_0.F := fun x => l37_sane_0 N x.1 x.2.1 x.2.2.1 x.2.2.2.1 x.2.2.2.2.1 x.2.2.2.2.2.1 x.2.2.2.2.2.2.1 x.2.2.2.2.2.2.2.1 x.2.2.2.2.2.2.2.2.1
theorem cl37_sane_0 (N : Nat) : CC (X77 N) (bodyOf Try.f9) Pl37_sane_0 (Fl37_sane_0 N) := CC.of (cok77 N) (us := u0_l37_sane N) (fun u h _ => oku0_l37_sane N u h) (fun x => by kernel_rfl)
noncomputable def ul37_sane_0 (N : Nat) : List (Pc D) := Pl37_sane_0.pc (X77 N) (Fl37_sane_0 N) :: u0_l37_sane N
theorem okul37_sane_0 (N : Nat) : ∀ u ∈ ul37_sane_0 N, PcOk (X77 N) (bodyOf Try.f9) u := pc_cons ((cl37_sane_0 N).pc (by kernel_rfl)) (oku0_l37_sane N)
noncomputable def dl37_sane : FD D := { f := 9, np := 0, ins := [], fx := [], rcv := none, rk := 0, outs := [.v 0 .bool], ofx := [], rvs := [.tmp 0], flat := true }
noncomputable def Fl37_sane (N : Nat) : dl37_sane.F := fun r x => l37_sane N
theorem ol37_sane (N : Nat) : FOk Try.prog (X77 N) dl37_sane (Fl37_sane N) := ⟨⟨Try.f9, _, Try.func9, rfl, by kernel_rfl, by kernel_rfl, rfl, FC.of (cok77 N) (us := ul37_sane_0 N) (fun u h _ => okul37_sane_0 N u h) (fun r x => by kernel_rfl)⟩, by kernel_rfl, by kernel_rfl, by kernel_rfl, by kernel_rfl⟩
noncomputable def fs78 (N : Nat) : List (FE D) := ⟨dl37_sane, Fl37_sane N⟩ :: fs77 N
theorem all78 (N : Nat) : ∀ y ∈ fs78 N, CallOk X0 y.d y.F := all_cons (x := ⟨dl37_sane, Fl37_sane N⟩) (ol37_sane N) (all77 N)
noncomputable def X78 (N : Nat) : Ev Try.prog D := X0.with (fs78 N)
theorem cok78 (N : Nat) : COk (X78 N) := COk.of (all78 N)
/-! ### humpyard/humpyardref36.valid -/
noncomputable def u0_r36_valid (N : Nat) : List (Pc D) := []
theorem oku0_r36_valid (N : Nat) : ∀ u ∈ u0_r36_valid N, PcOk (X78 N) (bodyOf Try.f46) u := pc_nil
noncomputable def Pr36_valid_0 : PD D := { path := [1, 0, 0], ins := [.o 1 (.box 75)], fx := [(1, .box 0 0)], ks := [1], exs := [⟨.normal, [.v 20 .bool], []⟩], keep := [1] }
noncomputable def Fr36_valid_0 (N : Nat) : Pr36_valid_0.F := fun x => r36_valid_0 N x.1
theorem cr36_valid_0 (N : Nat) : CC (X78 N) (bodyOf Try.f46) Pr36_valid_0 (Fr36_valid_0 N) := CC.of (cok78 N) (us := u0_r36_valid N) (fun u h _ => oku0_r36_valid N u h) (fun x => by kernel_rfl)
noncomputable def ur36_valid_0 (N : Nat) : List (Pc D) := Pr36_valid_0.pc (X78 N) (Fr36_valid_0 N) :: u0_r36_valid N
theorem okur36_valid_0 (N : Nat) : ∀ u ∈ ur36_valid_0 N, PcOk (X78 N) (bodyOf Try.f46) u := pc_cons ((cr36_valid_0 N).pc (by kernel_rfl)) (oku0_r36_valid N)
noncomputable def Pr36_valid_1 : PD D := { path := [1, 1, 0], ins := [.o 1 (.box 75)], fx := [(1, .box 0 0)], ks := [1], exs := [⟨.normal, [.v 2 .bool], []⟩], keep := [] }
noncomputable def Fr36_valid_1 (N : Nat) : Pr36_valid_1.F := fun x => r36_valid_1 N x.1
theorem cr36_valid_1 (N : Nat) : CC (X78 N) (bodyOf Try.f46) Pr36_valid_1 (Fr36_valid_1 N) := CC.of (cok78 N) (us := ur36_valid_0 N) (fun u h _ => okur36_valid_0 N u h) (fun x => by kernel_rfl)
noncomputable def ur36_valid_1 (N : Nat) : List (Pc D) := Pr36_valid_1.pc (X78 N) (Fr36_valid_1 N) :: ur36_valid_0 N
theorem okur36_valid_1 (N : Nat) : ∀ u ∈ ur36_valid_1 N, PcOk (X78 N) (bodyOf Try.f46) u := pc_cons ((cr36_valid_1 N).pc (by kernel_rfl)) (okur36_valid_0 N)
noncomputable def dr36_valid : FD D := { f := 46, np := 1, ins := [.v 0 (.agg 75)], fx := [], rcv := none, rk := 0, outs := [.v 2 .bool], ofx := [], rvs := [.tmp 2], flat := true }
noncomputable def Fr36_valid (N : Nat) : dr36_valid.F := fun r x => r36_valid N x.1
theorem or36_valid (N : Nat) : FOk Try.prog (X78 N) dr36_valid (Fr36_valid N) := ⟨⟨Try.f46, _, Try.func46, rfl, by kernel_rfl, by kernel_rfl, rfl, FC.of (cok78 N) (us := ur36_valid_1 N) (fun u h _ => okur36_valid_1 N u h) (fun r x => by kernel_rfl)⟩, by kernel_rfl, by kernel_rfl, by kernel_rfl, by kernel_rfl⟩
noncomputable def fs79 (N : Nat) : List (FE D) := ⟨dr36_valid, Fr36_valid N⟩ :: fs78 N
theorem all79 (N : Nat) : ∀ y ∈ fs79 N, CallOk X0 y.d y.F := all_cons (x := ⟨dr36_valid, Fr36_valid N⟩) (or36_valid N) (all78 N)
noncomputable def X79 (N : Nat) : Ev Try.prog D := X0.with (fs79 N)
theorem cok79 (N : Nat) : COk (X79 N) := COk.of (all79 N)
/-! ### humpyard/humpyardref36.Valid -/
noncomputable def u0_r36_Valid (N : Nat) : List (Pc D) := []
theorem oku0_r36_Valid (N : Nat) : ∀ u ∈ u0_r36_Valid N, PcOk (X79 N) (bodyOf Try.f27) u := pc_nil
noncomputable def Pr36_Valid_1 : PD D := { path := [1, 1, 0, 1, 0, 0, 1, 0, 0, 1, 1, 0], ins := [.v 0 (.sl 75), .v 3 (.int .i64), .v 4 (.int .i64)], fx := [], ks := [], exs := [⟨.exit 2, [], []⟩, ⟨.ret, [.v 2 (.int .i64)], []⟩], keep := [0, 3] }
noncomputable def Fr36_Valid_1 (N n : Nat) : Pr36_Valid_1.F := fun x => r36_Valid_1 N x.1 x.2.1 n x.2.2.1
theorem cr36_Valid_1 (N n : Nat) : CC (X79 N) (bodyOf Try.f27) Pr36_Valid_1 (Fr36_Valid_1 N n) := CC.loop (cok79 N) (us := u0_r36_Valid N) (c := sub (bodyOf Try.f27) [1, 1, 0, 1, 0, 0, 1, 0, 0, 1, 1, 0, 0]) (by kernel_rfl) (by kernel_rfl) (fun u h _ => oku0_r36_Valid N u h) (fun x => rfl) (fun n x => by kernel_rfl) n
noncomputable def ur36_Valid_1 (N : Nat) : List (Pc D) := Pr36_Valid_1.pc (X79 N) (Fr36_Valid_1 N N) :: u0_r36_Valid N
theorem okur36_Valid_1 (N : Nat) : ∀ u ∈ ur36_Valid_1 N, PcOk (X79 N) (bodyOf Try.f27) u := pc_cons ((cr36_Valid_1 N N).pc (by kernel_rfl)) (oku0_r36_Valid N)
noncomputable def Pr36_Valid_0 : PD D := { path := [1, 1, 0, 1, 0], ins := [.v 0 (.sl 75), .v 3 (.int .i64)], fx := [], ks := [], exs := [⟨.exit 0, [], []⟩, ⟨.ret, [.v 2 (.int .i64)], []⟩], keep := [] }
noncomputable def Fr36_Valid_0 (N n : Nat) : Pr36_Valid_0.F := fun x => r36_Valid_0 N x.1 n x.2.1
theorem cr36_Valid_0 (N n : Nat) : CC (X79 N) (bodyOf Try.f27) Pr36_Valid_0 (Fr36_Valid_0 N n) := CC.loop (cok79 N) (us := ur36_Valid_1 N) (c := sub (bodyOf Try.f27) [1, 1, 0, 1, 0, 0]) (by kernel_rfl) (by kernel_rfl) (fun u h _ => okur36_Valid_1 N u h) (fun x => rfl) (fun n x => by kernel_rfl) n
noncomputable def ur36_Valid_0 (N : Nat) : List (Pc D) := Pr36_Valid_0.pc (X79 N) (Fr36_Valid_0 N N) :: ur36_Valid_1 N
theorem okur36_Valid_0 (N : Nat) : ∀ u ∈ ur36_Valid_0 N, PcOk (X79 N) (bodyOf Try.f27) u := pc_cons ((cr36_Valid_0 N N).pc (by kernel_rfl)) (okur36_Valid_1 N)
noncomputable def dr36_Valid : FD D := { f := 27, np := 1, ins := [.v 0 (.sl 75)], fx := [], rcv := none, rk := 0, outs := [.v 2 (.int .i64)], ofx := [], rvs := [.tmp 2], flat := true }
noncomputable def Fr36_Valid (N : Nat) : dr36_Valid.F := fun r x => r36_Valid N x.1
theorem or36_Valid (N : Nat) : FOk Try.prog (X79 N) dr36_Valid (Fr36_Valid N) := ⟨⟨Try.f27, _, Try.func27, rfl, by kernel_rfl, by kernel_rfl, rfl, FC.of (cok79 N) (us := ur36_Valid_0 N) (fun u h _ => okur36_Valid_0 N u h) (fun r x => by kernel_rfl)⟩, by kernel_rfl, by kernel_rfl, by kernel_rfl, by kernel_rfl⟩
noncomputable def fs80 (N : Nat) : List (FE D) := ⟨dr36_Valid, Fr36_Valid N⟩ :: fs79 N
theorem all80 (N : Nat) : ∀ y ∈ fs80 N, CallOk X0 y.d y.F := all_cons (x := ⟨dr36_Valid, Fr36_Valid N⟩) (or36_Valid N) (all79 N)
noncomputable def X80 (N : Nat) : Ev Try.prog D := X0.with (fs80 N)
theorem cok80 (N : Nat) : COk (X80 N) := COk.of (all80 N)
/-! ### humpyard/humpyardref02.Valid -/
noncomputable def u0_r02_Valid (N : Nat) : List (Pc D) := []
theorem oku0_r02_Valid (N : Nat) : ∀ u ∈ u0_r02_Valid N, PcOk (X80 N) (bodyOf Try.f98) u := pc_nil
noncomputable def dr02_Valid : FD D := { f := 98, np := 1, ins := [.v 0 .str], fx := [], rcv := none, rk := 0, outs := [.v 2 (.int .i64)], ofx := [], rvs := [.tmp 2], flat := true }
noncomputable def Fr02_Valid (N : Nat) : dr02_Valid.F := fun r x => r02_Valid N x.1
theorem or02_Valid (N : Nat) : FOk Try.prog (X80 N) dr02_Valid (Fr02_Valid N) := ⟨⟨Try.f98, _, Try.func98, rfl, by kernel_rfl, by kernel_rfl, rfl, FC.of (cok80 N) (us := u0_r02_Valid N) (fun u h _ => oku0_r02_Valid N u h) (fun r x => by kernel_rfl)⟩, by kernel_rfl, by kernel_rfl, by kernel_rfl, by kernel_rfl⟩
noncomputable def fs81 (N : Nat) : List (FE D) := ⟨dr02_Valid, Fr02_Valid N⟩ :: fs80 N
theorem all81 (N : Nat) : ∀ y ∈ fs81 N, CallOk X0 y.d y.F := all_cons (x := ⟨dr02_Valid, Fr02_Valid N⟩) (or02_Valid N) (all80 N)
noncomputable def X81 (N : Nat) : Ev Try.prog D := X0.with (fs81 N)
theorem cok81 (N : Nat) : COk (X81 N) := COk.of (all81 N)
/-! ### humpyard/humpyardref02.Kind -/
noncomputable def u0_r02_Kind (N : Nat) : List (Pc D) := []
theorem oku0_r02_Kind (N : Nat) : ∀ u ∈ u0_r02_Kind N, PcOk (X81 N) (bodyOf Try.f95) u := pc_nil
noncomputable def Pr02_Kind_0 : PD D := { path := [1, 1, 0, 1, 0, 0, 1], ins := [.v 11 (.int .u8), .v 12 .bool], fx := [], ks := [], exs := [⟨.normal, [.v 12 .bool], []⟩], keep := [11] }
noncomputable def Fr02_Kind_0 (N : Nat) : Pr02_Kind_0.F := fun x => r02_Kind_0 N x.1 x.2.1
theorem cr02_Kind_0 (N : Nat) : CC (X81 N) (bodyOf Try.f95) Pr02_Kind_0 (Fr02_Kind_0 N) := CC.of (cok81 N) (us := u0_r02_Kind N) (fun u h _ => oku0_r02_Kind N u h) (fun x => by kernel_rfl)
noncomputable def ur02_Kind_0 (N : Nat) : List (Pc D) := Pr02_Kind_0.pc (X81 N) (Fr02_Kind_0 N) :: u0_r02_Kind N
theorem okur02_Kind_0 (N : Nat) : ∀ u ∈ ur02_Kind_0 N, PcOk (X81 N) (bodyOf Try.f95) u := pc_cons ((cr02_Kind_0 N).pc (by kernel_rfl)) (oku0_r02_Kind N)
noncomputable def Pr02_Kind_1 : PD D := { path := [1, 1, 0, 1, 0, 1, 1, 0, 1], ins := [.v 11 (.int .u8), .v 15 .bool], fx := [], ks := [], exs := [⟨.normal, [.v 15 .bool], []⟩], keep := [11] }
noncomputable def Fr02_Kind_1 (N : Nat) : Pr02_Kind_1.F := fun x => r02_Kind_1 N x.1 x.2.1
theorem cr02_Kind_1 (N : Nat) : CC (X81 N) (bodyOf Try.f95) Pr02_Kind_1 (Fr02_Kind_1 N) := CC.of (cok81 N) (us := ur02_Kind_0 N) (fun u h _ => okur02_Kind_0 N u h) (fun x => by kernel_rfl)
noncomputable def ur02_Kind_1 (N : Nat) : List (Pc D) := Pr02_Kind_1.pc (X81 N) (Fr02_Kind_1 N) :: ur02_Kind_0 N
theorem okur02_Kind_1 (N : Nat) : ∀ u ∈ ur02_Kind_1 N, PcOk (X81 N) (bodyOf Try.f95) u := pc_cons ((cr02_Kind_1 N).pc (by kernel_rfl)) (okur02_Kind_0 N)
noncomputable def dr02_Kind : FD D := { f := 95, np := 1, ins := [.v 0 .str], fx := [], rcv := none, rk := 0, outs := [.v 2 (.int .i64), .v 3 (.int .i64)], ofx := [], rvs := [.tmp 2, .tmp 3], flat := true }
noncomputable def Fr02_Kind (N : Nat) : dr02_Kind.F := fun r x => r02_Kind N x.1
theorem or02_Kind (N : Nat) : FOk Try.prog (X81 N) dr02_Kind (Fr02_Kind N) := ⟨⟨Try.f95, _, Try.func95, rfl, by kernel_rfl, by kernel_rfl, rfl, FC.of (cok81 N) (us := ur02_Kind_1 N) (fun u h _ => okur02_Kind_1 N u h) (fun r x => by kernel_rfl)⟩, by kernel_rfl, by kernel_rfl, by kernel_rfl, by kernel_rfl⟩
noncomputable def fs82 (N : Nat) : List (FE D) := ⟨dr02_Kind, Fr02_Kind N⟩ :: fs81 N
theorem all82 (N : Nat) : ∀ y ∈ fs82 N, CallOk X0 y.d y.F := all_cons (x := ⟨dr02_Kind, Fr02_Kind N⟩) (or02_Kind N) (all81 N)
noncomputable def X82 (N : Nat) : Ev Try.prog D := X0.with (fs82 N)
theorem cok82 (N : Nat) : COk (X82 N) := COk.of (all82 N)
/-! ### humpyard/humpyardref06.Name -/
noncomputable def u0_r06_Name (N : Nat) : List (Pc D) := []
theorem oku0_r06_Name (N : Nat) : ∀ u ∈ u0_r06_Name N, PcOk (X82 N) (bodyOf Try.f96) u := pc_nil
noncomputable def Pr06_Name_1 : PD D := { path := [1, 0, 1, 0, 0, 1, 0, 0, 0], ins := [.v 0 .str, .v 3 (.int .i64)], fx := [], ks := [], exs := [⟨.normal, [.v 32 .bool], []⟩], keep := [0, 3] }
noncomputable def Fr06_Name_1 (N : Nat) : Pr06_Name_1.F := fun x => r06_Name_1 N x.1 x.2.1
theorem cr06_Name_1 (N : Nat) : CC (X82 N) (bodyOf Try.f96) Pr06_Name_1 (Fr06_Name_1 N) := CC.of (cok82 N) (us := u0_r06_Name N) (fun u h _ => oku0_r06_Name N u h) (fun x => by kernel_rfl)
noncomputable def ur06_Name_1 (N : Nat) : List (Pc D) := Pr06_Name_1.pc (X82 N) (Fr06_Name_1 N) :: u0_r06_Name N
theorem okur06_Name_1 (N : Nat) : ∀ u ∈ ur06_Name_1 N, PcOk (X82 N) (bodyOf Try.f96) u := pc_cons ((cr06_Name_1 N).pc (by kernel_rfl)) (oku0_r06_Name N)
noncomputable def Pr06_Name_0 : PD D := { path := [1, 0, 1, 0], ins := [.v 0 .str, .v 3 (.int .i64)], fx := [], ks := [], exs := [⟨.exit 0, [], []⟩, ⟨.ret, [.v 2 .bool], []⟩], keep := [0] }
noncomputable def Fr06_Name_0 (N n : Nat) : Pr06_Name_0.F := fun x => r06_Name_0 N x.1 n x.2.1
theorem cr06_Name_0 (N n : Nat) : CC (X82 N) (bodyOf Try.f96) Pr06_Name_0 (Fr06_Name_0 N n) := CC.loop (cok82 N) (us := ur06_Name_1 N) (c := sub (bodyOf Try.f96) [1, 0, 1, 0, 0]) (by kernel_rfl) (by kernel_rfl) (fun u h _ => okur06_Name_1 N u h) (fun x => rfl) (fun n x => by kernel_rfl) n
noncomputable def ur06_Name_0 (N : Nat) : List (Pc D) := Pr06_Name_0.pc (X82 N) (Fr06_Name_0 N N) :: ur06_Name_1 N
theorem okur06_Name_0 (N : Nat) : ∀ u ∈ ur06_Name_0 N, PcOk (X82 N) (bodyOf Try.f96) u := pc_cons ((cr06_Name_0 N N).pc (by kernel_rfl)) (okur06_Name_1 N)
noncomputable def Pr06_Name_2 : PD D := { path := [1, 1, 0], ins := [.v 0 .str], fx := [], ks := [], exs := [⟨.normal, [.v 2 .bool], []⟩], keep := [] }
noncomputable def Fr06_Name_2 (N : Nat) : Pr06_Name_2.F := fun x => r06_Name_2 N x.1
theorem cr06_Name_2 (N : Nat) : CC (X82 N) (bodyOf Try.f96) Pr06_Name_2 (Fr06_Name_2 N) := CC.of (cok82 N) (us := ur06_Name_0 N) (fun u h _ => okur06_Name_0 N u h) (fun x => by kernel_rfl)
noncomputable def ur06_Name_2 (N : Nat) : List (Pc D) := Pr06_Name_2.pc (X82 N) (Fr06_Name_2 N) :: ur06_Name_0 N
theorem okur06_Name_2 (N : Nat) : ∀ u ∈ ur06_Name_2 N, PcOk (X82 N) (bodyOf Try.f96) u := pc_cons ((cr06_Name_2 N).pc (by kernel_rfl)) (okur06_Name_0 N)
noncomputable def dr06_Name : FD D := { f := 96, np := 1, ins := [.v 0 .str], fx := [], rcv := none, rk := 0, outs := [.v 2 .bool], ofx := [], rvs := [.tmp 2], flat := true }
noncomputable def Fr06_Name (N : Nat) : dr06_Name.F := fun r x => r06_Name N x.1
theorem or06_Name (N : Nat) : FOk Try.prog (X82 N) dr06_Name (Fr06_Name N) := ⟨⟨Try.f96, _, Try.func96, rfl, by kernel_rfl, by kernel_rfl, rfl, FC.of (cok82 N) (us := ur06_Name_2 N) (fun u h _ => okur06_Name_2 N u h) (fun r x => by kernel_rfl)⟩, by kernel_rfl, by kernel_rfl, by kernel_rfl, by kernel_rfl⟩
noncomputable def fs83 (N : Nat) : List (FE D) := ⟨dr06_Name, Fr06_Name N⟩ :: fs82 N
theorem all83 (N : Nat) : ∀ y ∈ fs83 N, CallOk X0 y.d y.F := all_cons (x := ⟨dr06_Name, Fr06_Name N⟩) (or06_Name N) (all82 N)
noncomputable def X83 (N : Nat) : Ev Try.prog D := X0.with (fs83 N)
theorem cok83 (N : Nat) : COk (X83 N) := COk.of (all83 N)
/-! ### humpyard/humpyardref06.Valid -/
noncomputable def u0_r06_Valid (N : Nat) : List (Pc D) := []
theorem oku0_r06_Valid (N : Nat) : ∀ u ∈ u0_r06_Valid N, PcOk (X83 N) (bodyOf Try.f88) u := pc_nil
noncomputable def Pr06_Valid_0 : PD D := { path := [1, 1, 1, 1, 0, 1], ins := [.o 1 (.box 53), .v 5 (.int .i64), .v 6 (.int .i64), .v 16 (.int .i64)], fx := [(1, .box 0 0)], ks := [1], exs := [⟨.normal, [.v 5 (.int .i64), .v 6 (.int .i64)], []⟩], keep := [1] }
noncomputable def Fr06_Valid_0 (N : Nat) : Pr06_Valid_0.F := fun x => r06_Valid_0 N x.2.1 x.2.2.1 x.2.2.2.1
theorem cr06_Valid_0 (N : Nat) : CC (X83 N) (bodyOf Try.f88) Pr06_Valid_0 (Fr06_Valid_0 N) := CC.of (cok83 N) (us := u0_r06_Valid N) (fun u h _ => oku0_r06_Valid N u h) (fun x => by kernel_rfl)
noncomputable def ur06_Valid_0 (N : Nat) : List (Pc D) := Pr06_Valid_0.pc (X83 N) (Fr06_Valid_0 N) :: u0_r06_Valid N
theorem okur06_Valid_0 (N : Nat) : ∀ u ∈ ur06_Valid_0 N, PcOk (X83 N) (bodyOf Try.f88) u := pc_cons ((cr06_Valid_0 N).pc (by kernel_rfl)) (oku0_r06_Valid N)
noncomputable def Pr06_Valid_1 : PD D := { path := [1, 1, 1, 1, 1, 0, 0, 1, 1, 0], ins := [.o 1 (.box 53), .v 6 (.int .i64)], fx := [(1, .box 0 0)], ks := [1], exs := [⟨.normal, [.v 26 .bool], []⟩], keep := [1] }
noncomputable def Fr06_Valid_1 (N : Nat) : Pr06_Valid_1.F := fun x => r06_Valid_1 N x.1 x.2.1
theorem cr06_Valid_1 (N : Nat) : CC (X83 N) (bodyOf Try.f88) Pr06_Valid_1 (Fr06_Valid_1 N) := CC.of (cok83 N) (us := ur06_Valid_0 N) (fun u h _ => okur06_Valid_0 N u h) (fun x => by kernel_rfl)
noncomputable def ur06_Valid_1 (N : Nat) : List (Pc D) := Pr06_Valid_1.pc (X83 N) (Fr06_Valid_1 N) :: ur06_Valid_0 N
theorem okur06_Valid_1 (N : Nat) : ∀ u ∈ ur06_Valid_1 N, PcOk (X83 N) (bodyOf Try.f88) u := pc_cons ((cr06_Valid_1 N).pc (by kernel_rfl)) (okur06_Valid_0 N)
noncomputable def dr06_Valid : FD D := { f := 88, np := 1, ins := [.v 0 (.agg 53)], fx := [], rcv := none, rk := 0, outs := [.v 2 (.int .i64)], ofx := [], rvs := [.tmp 2], flat := true }
noncomputable def Fr06_Valid (N : Nat) : dr06_Valid.F := fun r x => r06_Valid N x.1
theorem or06_Valid (N : Nat) : FOk Try.prog (X83 N) dr06_Valid (Fr06_Valid N) := ⟨⟨Try.f88, _, Try.func88, rfl, by kernel_rfl, by kernel_rfl, rfl, FC.of (cok83 N) (us := ur06_Valid_1 N) (fun u h _ => okur06_Valid_1 N u h) (fun r x => by kernel_rfl)⟩, by kernel_rfl, by kernel_rfl, by kernel_rfl, by kernel_rfl⟩
noncomputable def fs84 (N : Nat) : List (FE D) := ⟨dr06_Valid, Fr06_Valid N⟩ :: fs83 N
theorem all84 (N : Nat) : ∀ y ∈ fs84 N, CallOk X0 y.d y.F := all_cons (x := ⟨dr06_Valid, Fr06_Valid N⟩) (or06_Valid N) (all83 N)
noncomputable def X84 (N : Nat) : Ev Try.prog D := X0.with (fs84 N)
theorem cok84 (N : Nat) : COk (X84 N) := COk.of (all84 N)
/-! ### humpyard/humpyardref06.ValidList -/
noncomputable def u0_r06_ValidList (N : Nat) : List (Pc D) := []
theorem oku0_r06_ValidList (N : Nat) : ∀ u ∈ u0_r06_ValidList N, PcOk (X84 N) (bodyOf Try.f80) u := pc_nil
noncomputable def Pr06_ValidList_1 : PD D := { path := [1, 1, 0, 1, 0, 0, 1, 0, 0, 1, 1, 0], ins := [.v 0 (.sl 53), .v 3 (.int .i64), .v 5 (.int .i64)], fx := [], ks := [], exs := [⟨.exit 2, [], []⟩, ⟨.ret, [.v 2 (.int .i64)], []⟩], keep := [0, 3] }
noncomputable def Fr06_ValidList_1 (N n : Nat) : Pr06_ValidList_1.F := fun x => r06_ValidList_1 N x.1 x.2.1 n x.2.2.1
theorem cr06_ValidList_1 (N n : Nat) : CC (X84 N) (bodyOf Try.f80) Pr06_ValidList_1 (Fr06_ValidList_1 N n) := CC.loop (cok84 N) (us := u0_r06_ValidList N) (c := sub (bodyOf Try.f80) [1, 1, 0, 1, 0, 0, 1, 0, 0, 1, 1, 0, 0]) (by kernel_rfl) (by kernel_rfl) (fun u h _ => oku0_r06_ValidList N u h) (fun x => rfl) (fun n x => by kernel_rfl) n
noncomputable def ur06_ValidList_1 (N : Nat) : List (Pc D) := Pr06_ValidList_1.pc (X84 N) (Fr06_ValidList_1 N N) :: u0_r06_ValidList N
theorem okur06_ValidList_1 (N : Nat) : ∀ u ∈ ur06_ValidList_1 N, PcOk (X84 N) (bodyOf Try.f80) u := pc_cons ((cr06_ValidList_1 N N).pc (by kernel_rfl)) (oku0_r06_ValidList N)
noncomputable def Pr06_ValidList_0 : PD D := { path := [1, 1, 0, 1, 0], ins := [.v 0 (.sl 53), .v 3 (.int .i64)], fx := [], ks := [], exs := [⟨.exit 0, [], []⟩, ⟨.ret, [.v 2 (.int .i64)], []⟩], keep := [] }
noncomputable def Fr06_ValidList_0 (N n : Nat) : Pr06_ValidList_0.F := fun x => r06_ValidList_0 N x.1 n x.2.1
theorem cr06_ValidList_0 (N n : Nat) : CC (X84 N) (bodyOf Try.f80) Pr06_ValidList_0 (Fr06_ValidList_0 N n) := CC.loop (cok84 N) (us := ur06_ValidList_1 N) (c := sub (bodyOf Try.f80) [1, 1, 0, 1, 0, 0]) (by kernel_rfl) (by kernel_rfl) (fun u h _ => okur06_ValidList_1 N u h) (fun x => rfl) (fun n x => by kernel_rfl) n
noncomputable def ur06_ValidList_0 (N : Nat) : List (Pc D) := Pr06_ValidList_0.pc (X84 N) (Fr06_ValidList_0 N N) :: ur06_ValidList_1 N
theorem okur06_ValidList_0 (N : Nat) : ∀ u ∈ ur06_ValidList_0 N, PcOk (X84 N) (bodyOf Try.f80) u := pc_cons ((cr06_ValidList_0 N N).pc (by kernel_rfl)) (okur06_ValidList_1 N)
noncomputable def dr06_ValidList : FD D := { f := 80, np := 1, ins := [.v 0 (.sl 53)], fx := [], rcv := none, rk := 0, outs := [.v 2 (.int .i64)], ofx := [], rvs := [.tmp 2], flat := true }
noncomputable def Fr06_ValidList (N : Nat) : dr06_ValidList.F := fun r x => r06_ValidList N x.1
theorem or06_ValidList (N : Nat) : FOk Try.prog (X84 N) dr06_ValidList (Fr06_ValidList N) := ⟨⟨Try.f80, _, Try.func80, rfl, by kernel_rfl, by kernel_rfl, rfl, FC.of (cok84 N) (us := ur06_ValidList_0 N) (fun u h _ => okur06_ValidList_0 N u h) (fun r x => by kernel_rfl)⟩, by kernel_rfl, by kernel_rfl, by kernel_rfl, by kernel_rfl⟩
noncomputable def fs85 (N : Nat) : List (FE D) := ⟨dr06_ValidList, Fr06_ValidList N⟩ :: fs84 N
theorem all85 (N : Nat) : ∀ y ∈ fs85 N, CallOk X0 y.d y.F := all_cons (x := ⟨dr06_ValidList, Fr06_ValidList N⟩) (or06_ValidList N) (all84 N)
noncomputable def X85 (N : Nat) : Ev Try.prog D := X0.with (fs85 N)
theorem cok85 (N : Nat) : COk (X85 N) := COk.of (all85 N)
/-! ### humpyard/humpyardref06.Total -/
noncomputable def u0_r06_Total (N : Nat) : List (Pc D) := []
theorem oku0_r06_Total (N : Nat) : ∀ u ∈ u0_r06_Total N, PcOk (X85 N) (bodyOf Try.f47) u := pc_nil
noncomputable def Pr06_Total_0 : PD D := { path := [1, 1, 0, 1, 0], ins := [.v 0 (.sl 53), .v 2 (.int .i64), .v 3 (.int .i64), .v 4 (.int .i64), .v 7 (.int .i64)], fx := [], ks := [], exs := [⟨.exit 0, [.v 2 (.int .i64), .v 3 (.int .i64), .v 4 (.int .i64)], []⟩], keep := [] }
noncomputable def Fr06_Total_0 (N n : Nat) : Pr06_Total_0.F := fun x => r06_Total_0 N x.1 n x.2.1 x.2.2.1 x.2.2.2.1 x.2.2.2.2.1
theorem cr06_Total_0 (N n : Nat) : CC (X85 N) (bodyOf Try.f47) Pr06_Total_0 (Fr06_Total_0 N n) := CC.loop (cok85 N) (us := u0_r06_Total N) (c := sub (bodyOf Try.f47) [1, 1, 0, 1, 0, 0]) (by kernel_rfl) (by kernel_rfl) (fun u h _ => oku0_r06_Total N u h) (fun x => rfl) (fun n x => by kernel_rfl) n
noncomputable def ur06_Total_0 (N : Nat) : List (Pc D) := Pr06_Total_0.pc (X85 N) (Fr06_Total_0 N N) :: u0_r06_Total N
theorem okur06_Total_0 (N : Nat) : ∀ u ∈ ur06_Total_0 N, PcOk (X85 N) (bodyOf Try.f47) u := pc_cons ((cr06_Total_0 N N).pc (by kernel_rfl)) (oku0_r06_Total N)
noncomputable def dr06_Total : FD D := { f := 47, np := 1, ins := [.v 0 (.sl 53)], fx := [], rcv := none, rk := 0, outs := [.v 2 (.int .i64), .v 3 (.int .i64), .v 4 (.int .i64), .v 5 (.int .i64)], ofx := [], rvs := [.tmp 2, .tmp 3, .tmp 4, .tmp 5], flat := true }
noncomputable def Fr06_Total (N : Nat) : dr06_Total.F := fun r x => r06_Total N x.1
theorem or06_Total (N : Nat) : FOk Try.prog (X85 N) dr06_Total (Fr06_Total N) := ⟨⟨Try.f47, _, Try.func47, rfl, by kernel_rfl, by kernel_rfl, rfl, FC.of (cok85 N) (us := ur06_Total_0 N) (fun u h _ => okur06_Total_0 N u h) (fun r x => by kernel_rfl)⟩, by kernel_rfl, by kernel_rfl, by kernel_rfl, by kernel_rfl⟩
noncomputable def fs86 (N : Nat) : List (FE D) := ⟨dr06_Total, Fr06_Total N⟩ :: fs85 N
theorem all86 (N : Nat) : ∀ y ∈ fs86 N, CallOk X0 y.d y.F := all_cons (x := ⟨dr06_Total, Fr06_Total N⟩) (or06_Total N) (all85 N)
noncomputable def X86 (N : Nat) : Ev Try.prog D := X0.with (fs86 N)
theorem cok86 (N : Nat) : COk (X86 N) := COk.of (all86 N)
/-! ### humpyard/humpyardref35.Off -/
noncomputable def u0_r35_Off (N : Nat) : List (Pc D) := []
theorem oku0_r35_Off (N : Nat) : ∀ u ∈ u0_r35_Off N, PcOk (X86 N) (bodyOf Try.f48) u := pc_nil
noncomputable def Pr35_Off_0 : PD D := { path := [1, 0, 1, 0], ins := [.v 0 (.sl 3), .v 1 (.int .i64), .v 5 (.int .i64)], fx := [], ks := [], exs := [⟨.exit 0, [], []⟩, ⟨.ret, [.v 4 .bool], []⟩], keep := [] }
noncomputable def Fr35_Off_0 (N n : Nat) : Pr35_Off_0.F := fun x => r35_Off_0 N x.1 x.2.1 n x.2.2.1
theorem cr35_Off_0 (N n : Nat) : CC (X86 N) (bodyOf Try.f48) Pr35_Off_0 (Fr35_Off_0 N n) := CC.loop (cok86 N) (us := u0_r35_Off N) (c := sub (bodyOf Try.f48) [1, 0, 1, 0, 0]) (by kernel_rfl) (by kernel_rfl) (fun u h _ => oku0_r35_Off N u h) (fun x => rfl) (fun n x => by kernel_rfl) n
noncomputable def ur35_Off_0 (N : Nat) : List (Pc D) := Pr35_Off_0.pc (X86 N) (Fr35_Off_0 N N) :: u0_r35_Off N
theorem okur35_Off_0 (N : Nat) : ∀ u ∈ ur35_Off_0 N, PcOk (X86 N) (bodyOf Try.f48) u := pc_cons ((cr35_Off_0 N N).pc (by kernel_rfl)) (oku0_r35_Off N)
noncomputable def dr35_Off : FD D := { f := 48, np := 2, ins := [.v 0 (.sl 3), .v 1 (.int .i64)], fx := [], rcv := none, rk := 0, outs := [.v 4 .bool], ofx := [], rvs := [.tmp 4], flat := true }
noncomputable def Fr35_Off (N : Nat) : dr35_Off.F := fun r x => r35_Off N x.1 x.2.1
theorem or35_Off (N : Nat) : FOk Try.prog (X86 N) dr35_Off (Fr35_Off N) := ⟨⟨Try.f48, _, Try.func48, rfl, by kernel_rfl, by kernel_rfl, rfl, FC.of (cok86 N) (us := ur35_Off_0 N) (fun u h _ => okur35_Off_0 N u h) (fun r x => by kernel_rfl)⟩, by kernel_rfl, by kernel_rfl, by kernel_rfl, by kernel_rfl⟩
noncomputable def fs87 (N : Nat) : List (FE D) := ⟨dr35_Off, Fr35_Off N⟩ :: fs86 N
theorem all87 (N : Nat) : ∀ y ∈ fs87 N, CallOk X0 y.d y.F := all_cons (x := ⟨dr35_Off, Fr35_Off N⟩) (or35_Off N) (all86 N)
noncomputable def X87 (N : Nat) : Ev Try.prog D := X0.with (fs87 N)
theorem cok87 (N : Nat) : COk (X87 N) := COk.of (all87 N)
/-! ### humpyard/humpyardref35.Factor -/
noncomputable def u0_r35_Factor (N : Nat) : List (Pc D) := []
theorem oku0_r35_Factor (N : Nat) : ∀ u ∈ u0_r35_Factor N, PcOk (X87 N) (bodyOf Try.f49) u := pc_nil
noncomputable def dr35_Factor : FD D := { f := 49, np := 1, ins := [.v 0 (.int .i64)], fx := [], rcv := none, rk := 0, outs := [.v 2 (.int .i64)], ofx := [], rvs := [.tmp 2], flat := true }
noncomputable def Fr35_Factor (N : Nat) : dr35_Factor.F := fun r x => r35_Factor N x.1
theorem or35_Factor (N : Nat) : FOk Try.prog (X87 N) dr35_Factor (Fr35_Factor N) := ⟨⟨Try.f49, _, Try.func49, rfl, by kernel_rfl, by kernel_rfl, rfl, FC.of (cok87 N) (us := u0_r35_Factor N) (fun u h _ => oku0_r35_Factor N u h) (fun r x => by kernel_rfl)⟩, by kernel_rfl, by kernel_rfl, by kernel_rfl, by kernel_rfl⟩
noncomputable def fs88 (N : Nat) : List (FE D) := ⟨dr35_Factor, Fr35_Factor N⟩ :: fs87 N
theorem all88 (N : Nat) : ∀ y ∈ fs88 N, CallOk X0 y.d y.F := all_cons (x := ⟨dr35_Factor, Fr35_Factor N⟩) (or35_Factor N) (all87 N)
noncomputable def X88 (N : Nat) : Ev Try.prog D := X0.with (fs88 N)
theorem cok88 (N : Nat) : COk (X88 N) := COk.of (all88 N)
end Go.W
end
