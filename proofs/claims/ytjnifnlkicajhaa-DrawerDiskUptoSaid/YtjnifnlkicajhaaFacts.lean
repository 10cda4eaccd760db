/-
  Written by a program of this claim (wip/gen/gen.py): what each Go function asks of the world, as a plain predicate, and that it is enough. No condition is put on any statement here.
-/
import Derived.Test.YtjnifnlkicajhaaVcDraw
import Derived.Test.YtjnifnlkicajhaaProg
import Derived.KernelRfl
set_option maxRecDepth 100000
namespace Go.Proofs.Ytjnifnlkicajhaa.Fs
open Go Vc
theorem cf10 : ∀ args w, (callFunc 10 args).run Try.prog w = .ok (.enter 10 args) w := fun args w => by kernel_rfl
theorem cf11 : ∀ args w, (callFunc 11 args).run Try.prog w = .ok (.enter 11 args) w := fun args w => by kernel_rfl
theorem cf12 : ∀ args w, (callFunc 12 args).run Try.prog w = .ok (.enter 12 args) w := fun args w => by kernel_rfl
theorem cf13 : ∀ args w, (callFunc 13 args).run Try.prog w = .ok (.enter 13 args) w := fun args w => by kernel_rfl
theorem cf14 : ∀ args w, (callFunc 14 args).run Try.prog w = .ok (.enter 14 args) w := fun args w => by kernel_rfl
theorem cf15 : ∀ args w, (callFunc 15 args).run Try.prog w = .ok (.enter 15 args) w := fun args w => by kernel_rfl
theorem cf16 : ∀ args w, (callFunc 16 args).run Try.prog w = .ok (.enter 16 args) w := fun args w => by kernel_rfl
theorem cf17 : ∀ args w, (callFunc 17 args).run Try.prog w = .ok (.enter 17 args) w := fun args w => by kernel_rfl
theorem cf18 : ∀ args w, (callFunc 18 args).run Try.prog w = .ok (.enter 18 args) w := fun args w => by kernel_rfl
theorem cf19 : ∀ args w, (callFunc 19 args).run Try.prog w = .ok (.enter 19 args) w := fun args w => by kernel_rfl
theorem cf20 : ∀ args w, (callFunc 20 args).run Try.prog w = .ok (.enter 20 args) w := fun args w => by kernel_rfl
theorem cf21 : ∀ args w, (callFunc 21 args).run Try.prog w = .ok (.enter 21 args) w := fun args w => by kernel_rfl
theorem cf22 : ∀ args w, (callFunc 22 args).run Try.prog w = .ok (.enter 22 args) w := fun args w => by kernel_rfl
theorem cf23 : ∀ args w, (callFunc 23 args).run Try.prog w = .ok (.enter 23 args) w := fun args w => by kernel_rfl
theorem cf24 : ∀ args w, (callFunc 24 args).run Try.prog w = .ok (.enter 24 args) w := fun args w => by kernel_rfl
theorem cf25 : ∀ args w, (callFunc 25 args).run Try.prog w = .ok (.enter 25 args) w := fun args w => by kernel_rfl
theorem cf26 : ∀ args w, (callFunc 26 args).run Try.prog w = .ok (.enter 26 args) w := fun args w => by kernel_rfl
theorem cf27 : ∀ args w, (callFunc 27 args).run Try.prog w = .ok (.enter 27 args) w := fun args w => by kernel_rfl
theorem cf28 : ∀ args w, (callFunc 28 args).run Try.prog w = .ok (.enter 28 args) w := fun args w => by kernel_rfl
theorem cf29 : ∀ args w, (callFunc 29 args).run Try.prog w = .ok (.enter 29 args) w := fun args w => by kernel_rfl
theorem cf30 : ∀ args w, (callFunc 30 args).run Try.prog w = .ok (.enter 30 args) w := fun args w => by kernel_rfl
theorem cf31 : ∀ args w, (callFunc 31 args).run Try.prog w = .ok (.enter 31 args) w := fun args w => by kernel_rfl
theorem cf32 : ∀ args w, (callFunc 32 args).run Try.prog w = .ok (.enter 32 args) w := fun args w => by kernel_rfl
theorem cf33 : ∀ args w, (callFunc 33 args).run Try.prog w = .ok (.enter 33 args) w := fun args w => by kernel_rfl
theorem cf34 : ∀ args w, (callFunc 34 args).run Try.prog w = .ok (.enter 34 args) w := fun args w => by kernel_rfl
theorem cf35 : ∀ args w, (callFunc 35 args).run Try.prog w = .ok (.enter 35 args) w := fun args w => by kernel_rfl
theorem cf36 : ∀ args w, (callFunc 36 args).run Try.prog w = .ok (.enter 36 args) w := fun args w => by kernel_rfl
theorem cf37 : ∀ args w, (callFunc 37 args).run Try.prog w = .ok (.enter 37 args) w := fun args w => by kernel_rfl
theorem cf38 : ∀ args w, (callFunc 38 args).run Try.prog w = .ok (.enter 38 args) w := fun args w => by kernel_rfl
theorem cf39 : ∀ args w, (callFunc 39 args).run Try.prog w = .ok (.enter 39 args) w := fun args w => by kernel_rfl
theorem cf4 : ∀ args w, (callFunc 4 args).run Try.prog w = .ok (.enter 4 args) w := fun args w => by kernel_rfl
theorem cf40 : ∀ args w, (callFunc 40 args).run Try.prog w = .ok (.enter 40 args) w := fun args w => by kernel_rfl
theorem cf41 : ∀ args w, (callFunc 41 args).run Try.prog w = .ok (.enter 41 args) w := fun args w => by kernel_rfl
theorem cf42 : ∀ args w, (callFunc 42 args).run Try.prog w = .ok (.enter 42 args) w := fun args w => by kernel_rfl
theorem cf43 : ∀ args w, (callFunc 43 args).run Try.prog w = .ok (.enter 43 args) w := fun args w => by kernel_rfl
theorem cf44 : ∀ args w, (callFunc 44 args).run Try.prog w = .ok (.enter 44 args) w := fun args w => by kernel_rfl
theorem cf45 : ∀ args w, (callFunc 45 args).run Try.prog w = .ok (.enter 45 args) w := fun args w => by kernel_rfl
theorem cf46 : ∀ args w, (callFunc 46 args).run Try.prog w = .ok (.enter 46 args) w := fun args w => by kernel_rfl
theorem cf47 : ∀ args w, (callFunc 47 args).run Try.prog w = .ok (.enter 47 args) w := fun args w => by kernel_rfl
theorem cf48 : ∀ args w, (callFunc 48 args).run Try.prog w = .ok (.enter 48 args) w := fun args w => by kernel_rfl
theorem cf49 : ∀ args w, (callFunc 49 args).run Try.prog w = .ok (.enter 49 args) w := fun args w => by kernel_rfl
theorem cf5 : ∀ args w, (callFunc 5 args).run Try.prog w = .ok (.enter 5 args) w := fun args w => by kernel_rfl
theorem cf50 : ∀ args w, (callFunc 50 args).run Try.prog w = .ok (.enter 50 args) w := fun args w => by kernel_rfl
theorem cf51 : ∀ args w, (callFunc 51 args).run Try.prog w = .ok (.enter 51 args) w := fun args w => by kernel_rfl
theorem cf52 : ∀ args w, (callFunc 52 args).run Try.prog w = .ok (.enter 52 args) w := fun args w => by kernel_rfl
theorem cf53 : ∀ args w, (callFunc 53 args).run Try.prog w = .ok (.enter 53 args) w := fun args w => by kernel_rfl
theorem cf54 : ∀ args w, (callFunc 54 args).run Try.prog w = .ok (.enter 54 args) w := fun args w => by kernel_rfl
theorem cf55 : ∀ args w, (callFunc 55 args).run Try.prog w = .ok (.enter 55 args) w := fun args w => by kernel_rfl
theorem cf56 : ∀ args w, (callFunc 56 args).run Try.prog w = .ok (.enter 56 args) w := fun args w => by kernel_rfl
theorem cf57 : ∀ args w, (callFunc 57 args).run Try.prog w = .ok (.enter 57 args) w := fun args w => by kernel_rfl
theorem cf58 : ∀ args w, (callFunc 58 args).run Try.prog w = .ok (.enter 58 args) w := fun args w => by kernel_rfl
theorem cf59 : ∀ args w, (callFunc 59 args).run Try.prog w = .ok (.enter 59 args) w := fun args w => by kernel_rfl
theorem cf6 : ∀ args w, (callFunc 6 args).run Try.prog w = .ok (.enter 6 args) w := fun args w => by kernel_rfl
theorem cf60 : ∀ args w, (callFunc 60 args).run Try.prog w = .ok (.enter 60 args) w := fun args w => by kernel_rfl
theorem cf61 : ∀ args w, (callFunc 61 args).run Try.prog w = .ok (.enter 61 args) w := fun args w => by kernel_rfl
theorem cf62 : ∀ args w, (callFunc 62 args).run Try.prog w = .ok (.enter 62 args) w := fun args w => by kernel_rfl
theorem cf63 : ∀ args w, (callFunc 63 args).run Try.prog w = .ok (.enter 63 args) w := fun args w => by kernel_rfl
theorem cf65 : ∀ args w, (callFunc 65 args).run Try.prog w = .ok (.enter 65 args) w := fun args w => by kernel_rfl
theorem cf66 : ∀ args w, (callFunc 66 args).run Try.prog w = .ok (.enter 66 args) w := fun args w => by kernel_rfl
theorem cf67 : ∀ args w, (callFunc 67 args).run Try.prog w = .ok (.enter 67 args) w := fun args w => by kernel_rfl
theorem cf69 : ∀ args w, (callFunc 69 args).run Try.prog w = .ok (.enter 69 args) w := fun args w => by kernel_rfl
theorem cf7 : ∀ args w, (callFunc 7 args).run Try.prog w = .ok (.enter 7 args) w := fun args w => by kernel_rfl
theorem cf72 : ∀ args w, (callFunc 72 args).run Try.prog w = .ok (.enter 72 args) w := fun args w => by kernel_rfl
theorem cf73 : ∀ args w, (callFunc 73 args).run Try.prog w = .ok (.enter 73 args) w := fun args w => by kernel_rfl
theorem cf74 : ∀ args w, (callFunc 74 args).run Try.prog w = .ok (.enter 74 args) w := fun args w => by kernel_rfl
theorem cf8 : ∀ args w, (callFunc 8 args).run Try.prog w = .ok (.enter 8 args) w := fun args w => by kernel_rfl
theorem cf9 : ∀ args w, (callFunc 9 args).run Try.prog w = .ok (.enter 9 args) w := fun args w => by kernel_rfl
theorem fd100_0 : ∀ (ad : Addr) (w : World), (Instr.fieldAt 100 (.pointer (some ad)) 0).run Try.prog w = .ok (.pointer (some (ad.add 0))) w := fun ad w => by kernel_rfl
theorem fd100_1 : ∀ (ad : Addr) (w : World), (Instr.fieldAt 100 (.pointer (some ad)) 1).run Try.prog w = .ok (.pointer (some (ad.add 1))) w := fun ad w => by kernel_rfl
theorem fd100_2 : ∀ (ad : Addr) (w : World), (Instr.fieldAt 100 (.pointer (some ad)) 2).run Try.prog w = .ok (.pointer (some (ad.add 2))) w := fun ad w => by kernel_rfl
theorem fd100_3 : ∀ (ad : Addr) (w : World), (Instr.fieldAt 100 (.pointer (some ad)) 3).run Try.prog w = .ok (.pointer (some (ad.add 3))) w := fun ad w => by kernel_rfl
theorem fd100_4 : ∀ (ad : Addr) (w : World), (Instr.fieldAt 100 (.pointer (some ad)) 4).run Try.prog w = .ok (.pointer (some (ad.add 4))) w := fun ad w => by kernel_rfl
theorem fd137_2 : ∀ (ad : Addr) (w : World), (Instr.fieldAt 137 (.pointer (some ad)) 2).run Try.prog w = .ok (.pointer (some (ad.add 3))) w := fun ad w => by kernel_rfl
theorem fd137_4 : ∀ (ad : Addr) (w : World), (Instr.fieldAt 137 (.pointer (some ad)) 4).run Try.prog w = .ok (.pointer (some (ad.add 5))) w := fun ad w => by kernel_rfl
theorem fd140_0 : ∀ (ad : Addr) (w : World), (Instr.fieldAt 140 (.pointer (some ad)) 0).run Try.prog w = .ok (.pointer (some (ad.add 0))) w := fun ad w => by kernel_rfl
theorem fd140_1 : ∀ (ad : Addr) (w : World), (Instr.fieldAt 140 (.pointer (some ad)) 1).run Try.prog w = .ok (.pointer (some (ad.add 1))) w := fun ad w => by kernel_rfl
theorem fd144_0 : ∀ (ad : Addr) (w : World), (Instr.fieldAt 144 (.pointer (some ad)) 0).run Try.prog w = .ok (.pointer (some (ad.add 0))) w := fun ad w => by kernel_rfl
theorem fd144_4 : ∀ (ad : Addr) (w : World), (Instr.fieldAt 144 (.pointer (some ad)) 4).run Try.prog w = .ok (.pointer (some (ad.add 4))) w := fun ad w => by kernel_rfl
theorem fd146_0 : ∀ (ad : Addr) (w : World), (Instr.fieldAt 146 (.pointer (some ad)) 0).run Try.prog w = .ok (.pointer (some (ad.add 0))) w := fun ad w => by kernel_rfl
theorem fd146_1 : ∀ (ad : Addr) (w : World), (Instr.fieldAt 146 (.pointer (some ad)) 1).run Try.prog w = .ok (.pointer (some (ad.add 1))) w := fun ad w => by kernel_rfl
theorem fd149_3 : ∀ (ad : Addr) (w : World), (Instr.fieldAt 149 (.pointer (some ad)) 3).run Try.prog w = .ok (.pointer (some (ad.add 3))) w := fun ad w => by kernel_rfl
theorem fd149_6 : ∀ (ad : Addr) (w : World), (Instr.fieldAt 149 (.pointer (some ad)) 6).run Try.prog w = .ok (.pointer (some (ad.add 6))) w := fun ad w => by kernel_rfl
theorem fd152_0 : ∀ (ad : Addr) (w : World), (Instr.fieldAt 152 (.pointer (some ad)) 0).run Try.prog w = .ok (.pointer (some (ad.add 0))) w := fun ad w => by kernel_rfl
theorem fd152_2 : ∀ (ad : Addr) (w : World), (Instr.fieldAt 152 (.pointer (some ad)) 2).run Try.prog w = .ok (.pointer (some (ad.add 2))) w := fun ad w => by kernel_rfl
theorem fd155_0 : ∀ (ad : Addr) (w : World), (Instr.fieldAt 155 (.pointer (some ad)) 0).run Try.prog w = .ok (.pointer (some (ad.add 0))) w := fun ad w => by kernel_rfl
theorem fd155_1 : ∀ (ad : Addr) (w : World), (Instr.fieldAt 155 (.pointer (some ad)) 1).run Try.prog w = .ok (.pointer (some (ad.add 1))) w := fun ad w => by kernel_rfl
theorem fd158_0 : ∀ (ad : Addr) (w : World), (Instr.fieldAt 158 (.pointer (some ad)) 0).run Try.prog w = .ok (.pointer (some (ad.add 0))) w := fun ad w => by kernel_rfl
theorem fd158_1 : ∀ (ad : Addr) (w : World), (Instr.fieldAt 158 (.pointer (some ad)) 1).run Try.prog w = .ok (.pointer (some (ad.add 1))) w := fun ad w => by kernel_rfl
theorem fd32_0 : ∀ (ad : Addr) (w : World), (Instr.fieldAt 32 (.pointer (some ad)) 0).run Try.prog w = .ok (.pointer (some (ad.add 0))) w := fun ad w => by kernel_rfl
theorem fd32_2 : ∀ (ad : Addr) (w : World), (Instr.fieldAt 32 (.pointer (some ad)) 2).run Try.prog w = .ok (.pointer (some (ad.add 2))) w := fun ad w => by kernel_rfl
theorem fd38_0 : ∀ (ad : Addr) (w : World), (Instr.fieldAt 38 (.pointer (some ad)) 0).run Try.prog w = .ok (.pointer (some (ad.add 0))) w := fun ad w => by kernel_rfl
theorem fd38_1 : ∀ (ad : Addr) (w : World), (Instr.fieldAt 38 (.pointer (some ad)) 1).run Try.prog w = .ok (.pointer (some (ad.add 1))) w := fun ad w => by kernel_rfl
theorem fd38_2 : ∀ (ad : Addr) (w : World), (Instr.fieldAt 38 (.pointer (some ad)) 2).run Try.prog w = .ok (.pointer (some (ad.add 2))) w := fun ad w => by kernel_rfl
theorem fd38_4 : ∀ (ad : Addr) (w : World), (Instr.fieldAt 38 (.pointer (some ad)) 4).run Try.prog w = .ok (.pointer (some (ad.add 4))) w := fun ad w => by kernel_rfl
theorem fd38_5 : ∀ (ad : Addr) (w : World), (Instr.fieldAt 38 (.pointer (some ad)) 5).run Try.prog w = .ok (.pointer (some (ad.add 5))) w := fun ad w => by kernel_rfl
theorem fd38_6 : ∀ (ad : Addr) (w : World), (Instr.fieldAt 38 (.pointer (some ad)) 6).run Try.prog w = .ok (.pointer (some (ad.add 6))) w := fun ad w => by kernel_rfl
theorem fd65_0 : ∀ (ad : Addr) (w : World), (Instr.fieldAt 65 (.pointer (some ad)) 0).run Try.prog w = .ok (.pointer (some (ad.add 0))) w := fun ad w => by kernel_rfl
theorem fd65_1 : ∀ (ad : Addr) (w : World), (Instr.fieldAt 65 (.pointer (some ad)) 1).run Try.prog w = .ok (.pointer (some (ad.add 1))) w := fun ad w => by kernel_rfl
theorem fd65_10 : ∀ (ad : Addr) (w : World), (Instr.fieldAt 65 (.pointer (some ad)) 10).run Try.prog w = .ok (.pointer (some (ad.add 10))) w := fun ad w => by kernel_rfl
theorem fd65_11 : ∀ (ad : Addr) (w : World), (Instr.fieldAt 65 (.pointer (some ad)) 11).run Try.prog w = .ok (.pointer (some (ad.add 11))) w := fun ad w => by kernel_rfl
theorem fd65_12 : ∀ (ad : Addr) (w : World), (Instr.fieldAt 65 (.pointer (some ad)) 12).run Try.prog w = .ok (.pointer (some (ad.add 12))) w := fun ad w => by kernel_rfl
theorem fd65_13 : ∀ (ad : Addr) (w : World), (Instr.fieldAt 65 (.pointer (some ad)) 13).run Try.prog w = .ok (.pointer (some (ad.add 13))) w := fun ad w => by kernel_rfl
theorem fd65_14 : ∀ (ad : Addr) (w : World), (Instr.fieldAt 65 (.pointer (some ad)) 14).run Try.prog w = .ok (.pointer (some (ad.add 14))) w := fun ad w => by kernel_rfl
theorem fd65_15 : ∀ (ad : Addr) (w : World), (Instr.fieldAt 65 (.pointer (some ad)) 15).run Try.prog w = .ok (.pointer (some (ad.add 15))) w := fun ad w => by kernel_rfl
theorem fd65_16 : ∀ (ad : Addr) (w : World), (Instr.fieldAt 65 (.pointer (some ad)) 16).run Try.prog w = .ok (.pointer (some (ad.add 16))) w := fun ad w => by kernel_rfl
theorem fd65_17 : ∀ (ad : Addr) (w : World), (Instr.fieldAt 65 (.pointer (some ad)) 17).run Try.prog w = .ok (.pointer (some (ad.add 17))) w := fun ad w => by kernel_rfl
theorem fd65_18 : ∀ (ad : Addr) (w : World), (Instr.fieldAt 65 (.pointer (some ad)) 18).run Try.prog w = .ok (.pointer (some (ad.add 18))) w := fun ad w => by kernel_rfl
theorem fd65_19 : ∀ (ad : Addr) (w : World), (Instr.fieldAt 65 (.pointer (some ad)) 19).run Try.prog w = .ok (.pointer (some (ad.add 19))) w := fun ad w => by kernel_rfl
theorem fd65_2 : ∀ (ad : Addr) (w : World), (Instr.fieldAt 65 (.pointer (some ad)) 2).run Try.prog w = .ok (.pointer (some (ad.add 2))) w := fun ad w => by kernel_rfl
theorem fd65_20 : ∀ (ad : Addr) (w : World), (Instr.fieldAt 65 (.pointer (some ad)) 20).run Try.prog w = .ok (.pointer (some (ad.add 20))) w := fun ad w => by kernel_rfl
theorem fd65_3 : ∀ (ad : Addr) (w : World), (Instr.fieldAt 65 (.pointer (some ad)) 3).run Try.prog w = .ok (.pointer (some (ad.add 3))) w := fun ad w => by kernel_rfl
theorem fd65_4 : ∀ (ad : Addr) (w : World), (Instr.fieldAt 65 (.pointer (some ad)) 4).run Try.prog w = .ok (.pointer (some (ad.add 4))) w := fun ad w => by kernel_rfl
theorem fd65_5 : ∀ (ad : Addr) (w : World), (Instr.fieldAt 65 (.pointer (some ad)) 5).run Try.prog w = .ok (.pointer (some (ad.add 5))) w := fun ad w => by kernel_rfl
theorem fd65_6 : ∀ (ad : Addr) (w : World), (Instr.fieldAt 65 (.pointer (some ad)) 6).run Try.prog w = .ok (.pointer (some (ad.add 6))) w := fun ad w => by kernel_rfl
theorem fd65_7 : ∀ (ad : Addr) (w : World), (Instr.fieldAt 65 (.pointer (some ad)) 7).run Try.prog w = .ok (.pointer (some (ad.add 7))) w := fun ad w => by kernel_rfl
theorem fd65_8 : ∀ (ad : Addr) (w : World), (Instr.fieldAt 65 (.pointer (some ad)) 8).run Try.prog w = .ok (.pointer (some (ad.add 8))) w := fun ad w => by kernel_rfl
theorem fd65_9 : ∀ (ad : Addr) (w : World), (Instr.fieldAt 65 (.pointer (some ad)) 9).run Try.prog w = .ok (.pointer (some (ad.add 9))) w := fun ad w => by kernel_rfl
theorem fd74_0 : ∀ (ad : Addr) (w : World), (Instr.fieldAt 74 (.pointer (some ad)) 0).run Try.prog w = .ok (.pointer (some (ad.add 0))) w := fun ad w => by kernel_rfl
theorem fd74_1 : ∀ (ad : Addr) (w : World), (Instr.fieldAt 74 (.pointer (some ad)) 1).run Try.prog w = .ok (.pointer (some (ad.add 1))) w := fun ad w => by kernel_rfl
theorem fd74_2 : ∀ (ad : Addr) (w : World), (Instr.fieldAt 74 (.pointer (some ad)) 2).run Try.prog w = .ok (.pointer (some (ad.add 2))) w := fun ad w => by kernel_rfl
theorem fd96_0 : ∀ (ad : Addr) (w : World), (Instr.fieldAt 96 (.pointer (some ad)) 0).run Try.prog w = .ok (.pointer (some (ad.add 0))) w := fun ad w => by kernel_rfl
theorem fd96_1 : ∀ (ad : Addr) (w : World), (Instr.fieldAt 96 (.pointer (some ad)) 1).run Try.prog w = .ok (.pointer (some (ad.add 1))) w := fun ad w => by kernel_rfl
theorem fd96_2 : ∀ (ad : Addr) (w : World), (Instr.fieldAt 96 (.pointer (some ad)) 2).run Try.prog w = .ok (.pointer (some (ad.add 2))) w := fun ad w => by kernel_rfl
theorem fd96_3 : ∀ (ad : Addr) (w : World), (Instr.fieldAt 96 (.pointer (some ad)) 3).run Try.prog w = .ok (.pointer (some (ad.add 3))) w := fun ad w => by kernel_rfl
theorem fd96_4 : ∀ (ad : Addr) (w : World), (Instr.fieldAt 96 (.pointer (some ad)) 4).run Try.prog w = .ok (.pointer (some (ad.add 4))) w := fun ad w => by kernel_rfl
theorem fd96_5 : ∀ (ad : Addr) (w : World), (Instr.fieldAt 96 (.pointer (some ad)) 5).run Try.prog w = .ok (.pointer (some (ad.add 5))) w := fun ad w => by kernel_rfl
theorem fd98_0 : ∀ (ad : Addr) (w : World), (Instr.fieldAt 98 (.pointer (some ad)) 0).run Try.prog w = .ok (.pointer (some (ad.add 0))) w := fun ad w => by kernel_rfl
theorem fd98_1 : ∀ (ad : Addr) (w : World), (Instr.fieldAt 98 (.pointer (some ad)) 1).run Try.prog w = .ok (.pointer (some (ad.add 1))) w := fun ad w => by kernel_rfl
theorem mo : Try.prog.follows .mixedOrders = true := by kernel_rfl
theorem sz113 : (Try.prog.info? 113).map (·.size) = some 1 := by kernel_rfl
theorem sz114 : (Try.prog.info? 114).map (·.size) = some 1 := by kernel_rfl
theorem sz116 : (Try.prog.info? 116).map (·.size) = some 2 := by kernel_rfl
theorem sz117 : (Try.prog.info? 117).map (·.size) = some 1 := by kernel_rfl
theorem sz119 : (Try.prog.info? 119).map (·.size) = some 2 := by kernel_rfl
theorem sz120 : (Try.prog.info? 120).map (·.size) = some 1 := by kernel_rfl
theorem sz122 : (Try.prog.info? 122).map (·.size) = some 5 := by kernel_rfl
theorem sz123 : (Try.prog.info? 123).map (·.size) = some 1 := by kernel_rfl
theorem sz125 : (Try.prog.info? 125).map (·.size) = some 3 := by kernel_rfl
theorem sz126 : (Try.prog.info? 126).map (·.size) = some 1 := by kernel_rfl
theorem sz130 : (Try.prog.info? 130).map (·.size) = some 21 := by kernel_rfl
theorem sz131 : (Try.prog.info? 131).map (·.size) = some 1 := by kernel_rfl
theorem sz134 : (Try.prog.info? 134).map (·.size) = some 2 := by kernel_rfl
theorem sz135 : (Try.prog.info? 135).map (·.size) = some 1 := by kernel_rfl
theorem sz137 : (Try.prog.info? 137).map (·.size) = some 6 := by kernel_rfl
theorem sz138 : (Try.prog.info? 138).map (·.size) = some 1 := by kernel_rfl
theorem sz140 : (Try.prog.info? 140).map (·.size) = some 2 := by kernel_rfl
theorem sz141 : (Try.prog.info? 141).map (·.size) = some 1 := by kernel_rfl
theorem sz142 : (Try.prog.info? 142).map (·.size) = some 1 := by kernel_rfl
theorem sz144 : (Try.prog.info? 144).map (·.size) = some 5 := by kernel_rfl
theorem sz146 : (Try.prog.info? 146).map (·.size) = some 12 := by kernel_rfl
theorem sz147 : (Try.prog.info? 147).map (·.size) = some 1 := by kernel_rfl
theorem sz149 : (Try.prog.info? 149).map (·.size) = some 7 := by kernel_rfl
theorem sz150 : (Try.prog.info? 150).map (·.size) = some 1 := by kernel_rfl
theorem sz152 : (Try.prog.info? 152).map (·.size) = some 9 := by kernel_rfl
theorem sz153 : (Try.prog.info? 153).map (·.size) = some 1 := by kernel_rfl
theorem sz155 : (Try.prog.info? 155).map (·.size) = some 2 := by kernel_rfl
theorem sz156 : (Try.prog.info? 156).map (·.size) = some 1 := by kernel_rfl
theorem sz158 : (Try.prog.info? 158).map (·.size) = some 2 := by kernel_rfl
theorem sz159 : (Try.prog.info? 159).map (·.size) = some 1 := by kernel_rfl
theorem sz161 : (Try.prog.info? 161).map (·.size) = some 2 := by kernel_rfl
theorem sz162 : (Try.prog.info? 162).map (·.size) = some 1 := by kernel_rfl
theorem sz22 : (Try.prog.info? 22).map (·.size) = some 1 := by kernel_rfl
theorem sz3 : (Try.prog.info? 3).map (·.size) = some 1 := by kernel_rfl
theorem sz34 : (Try.prog.info? 34).map (·.size) = some 1 := by kernel_rfl
theorem sz35 : (Try.prog.info? 35).map (·.size) = some 1 := by kernel_rfl
theorem sz36 : (Try.prog.info? 36).map (·.size) = some 1 := by kernel_rfl
theorem sz38 : (Try.prog.info? 38).map (·.size) = some 8 := by kernel_rfl
theorem sz4 : (Try.prog.info? 4).map (·.size) = some 1 := by kernel_rfl
theorem sz43 : (Try.prog.info? 43).map (·.size) = some 1 := by kernel_rfl
theorem sz44 : (Try.prog.info? 44).map (·.size) = some 1 := by kernel_rfl
theorem sz5 : (Try.prog.info? 5).map (·.size) = some 1 := by kernel_rfl
theorem sz56 : (Try.prog.info? 56).map (·.size) = some 1 := by kernel_rfl
theorem sz69 : (Try.prog.info? 69).map (·.size) = some 1 := by kernel_rfl
theorem sz74 : (Try.prog.info? 74).map (·.size) = some 3 := by kernel_rfl
theorem sz9 : (Try.prog.info? 9).map (·.size) = some 1 := by kernel_rfl
theorem sz91 : (Try.prog.info? 91).map (·.size) = some 1 := by kernel_rfl
theorem ze116 : ∀ w, (zeroValue 116).run Try.prog w = .ok (.agg #[.int .i64 0, .int .i64 0]) w := fun w => by kernel_rfl
theorem ze119 : ∀ w, (zeroValue 119).run Try.prog w = .ok (.agg #[.int .i64 0, .int .i64 0]) w := fun w => by kernel_rfl
theorem ze122 : ∀ w, (zeroValue 122).run Try.prog w = .ok (.agg #[.int .i64 0, .int .i64 0, .string ⟨#[]⟩, .int .i64 0, .int .i64 0]) w := fun w => by kernel_rfl
theorem ze125 : ∀ w, (zeroValue 125).run Try.prog w = .ok (.agg #[.int .u32 0, .int .i64 0, .int .i64 0]) w := fun w => by kernel_rfl
theorem ze130 : ∀ w, (zeroValue 130).run Try.prog w = .ok (.agg #[.int .u32 0, .bool false, .bool false, .int .i64 0, .int .i64 0, .int .i64 0, .int .i64 0, .int .u32 0, .bool false, .bool false, .int .i64 0, .int .i64 0, .int .i64 0, .int .i64 0, .int .u32 0, .bool false, .bool false, .int .i64 0, .int .i64 0, .int .i64 0, .int .i64 0]) w := fun w => by kernel_rfl
theorem ze134 : ∀ w, (zeroValue 134).run Try.prog w = .ok (.agg #[.int .i64 0, (.float .f32 0)]) w := fun w => by kernel_rfl
theorem ze137 : ∀ w, (zeroValue 137).run Try.prog w = .ok (.agg #[.int .u32 0, .int .i64 0, .int .i64 0, .int .i64 0, .slice none 0 0, .slice none 0 0]) w := fun w => by kernel_rfl
theorem ze140 : ∀ w, (zeroValue 140).run Try.prog w = .ok (.agg #[.int .u8 0, .slice none 0 0]) w := fun w => by kernel_rfl
theorem ze144 : ∀ w, (zeroValue 144).run Try.prog w = .ok (.agg #[.int .i64 0, .int .i64 0, .int .i64 0, .int .i64 0, .slice none 0 0]) w := fun w => by kernel_rfl
theorem ze146 : ∀ w, (zeroValue 146).run Try.prog w = .ok (.agg #[.int .i64 0, .bool false, .int .i64 0, .int .i64 0, .int .i64 0, .int .i64 0, .slice none 0 0, .int .i64 0, .int .i64 0, .int .i64 0, .int .i64 0, .slice none 0 0]) w := fun w => by kernel_rfl
theorem ze149 : ∀ w, (zeroValue 149).run Try.prog w = .ok (.agg #[.string ⟨#[]⟩, .bool false, .bool false, .int .i64 0, .int .i64 0, .int .i64 0, .slice none 0 0]) w := fun w => by kernel_rfl
theorem ze152 : ∀ w, (zeroValue 152).run Try.prog w = .ok (.agg #[.string ⟨#[]⟩, .bool false, .int .i64 0, .int .i64 0, .int .i64 0, .int .i64 0, .int .i64 0, .slice none 0 0, .string ⟨#[]⟩]) w := fun w => by kernel_rfl
theorem ze155 : ∀ w, (zeroValue 155).run Try.prog w = .ok (.agg #[.string ⟨#[]⟩, .slice none 0 0]) w := fun w => by kernel_rfl
theorem ze158 : ∀ w, (zeroValue 158).run Try.prog w = .ok (.agg #[.string ⟨#[]⟩, .slice none 0 0]) w := fun w => by kernel_rfl
theorem ze161 : ∀ w, (zeroValue 161).run Try.prog w = .ok (.agg #[.string ⟨#[]⟩, .int .i64 0]) w := fun w => by kernel_rfl
theorem ze4 : ∀ w, (zeroValue 4).run Try.prog w = .ok (.bool false) w := fun w => by kernel_rfl
theorem ze69 : ∀ w, (zeroValue 69).run Try.prog w = .ok (.int .i64 0) w := fun w => by kernel_rfl
theorem ze74 : ∀ w, (zeroValue 74).run Try.prog w = .ok (.agg #[.string ⟨#[]⟩, .slice none 0 0, .int .i64 0]) w := fun w => by kernel_rfl
end Go.Proofs.Ytjnifnlkicajhaa.Fs
