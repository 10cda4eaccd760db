/-
  Written by a program of this claim (wip/gen/gen.py): what each Go function asks of the world, as a plain predicate, and that it is enough. No condition is put on any statement here.
-/
import Derived.Test.YtjnifnlkicajhaaDoorVcDraw
import Derived.Test.YtjnifnlkicajhaaDoorProg
import Derived.KernelRfl
set_option maxRecDepth 100000
namespace Go.Proofs.YtjnifnlkicajhaaDoor.Fs
open Go Vc
theorem cf10 : ∀ args w, (callFunc 10 args).run Tryd.prog w = .ok (.enter 10 args) w := fun args w => by kernel_rfl
theorem cf11 : ∀ args w, (callFunc 11 args).run Tryd.prog w = .ok (.enter 11 args) w := fun args w => by kernel_rfl
theorem cf12 : ∀ args w, (callFunc 12 args).run Tryd.prog w = .ok (.enter 12 args) w := fun args w => by kernel_rfl
theorem cf13 : ∀ args w, (callFunc 13 args).run Tryd.prog w = .ok (.enter 13 args) w := fun args w => by kernel_rfl
theorem cf14 : ∀ args w, (callFunc 14 args).run Tryd.prog w = .ok (.enter 14 args) w := fun args w => by kernel_rfl
theorem cf15 : ∀ args w, (callFunc 15 args).run Tryd.prog w = .ok (.enter 15 args) w := fun args w => by kernel_rfl
theorem cf16 : ∀ args w, (callFunc 16 args).run Tryd.prog w = .ok (.enter 16 args) w := fun args w => by kernel_rfl
theorem cf17 : ∀ args w, (callFunc 17 args).run Tryd.prog w = .ok (.enter 17 args) w := fun args w => by kernel_rfl
theorem cf18 : ∀ args w, (callFunc 18 args).run Tryd.prog w = .ok (.enter 18 args) w := fun args w => by kernel_rfl
theorem cf19 : ∀ args w, (callFunc 19 args).run Tryd.prog w = .ok (.enter 19 args) w := fun args w => by kernel_rfl
theorem cf20 : ∀ args w, (callFunc 20 args).run Tryd.prog w = .ok (.enter 20 args) w := fun args w => by kernel_rfl
theorem cf21 : ∀ args w, (callFunc 21 args).run Tryd.prog w = .ok (.enter 21 args) w := fun args w => by kernel_rfl
theorem cf22 : ∀ args w, (callFunc 22 args).run Tryd.prog w = .ok (.enter 22 args) w := fun args w => by kernel_rfl
theorem cf23 : ∀ args w, (callFunc 23 args).run Tryd.prog w = .ok (.enter 23 args) w := fun args w => by kernel_rfl
theorem cf25 : ∀ args w, (callFunc 25 args).run Tryd.prog w = .ok (.enter 25 args) w := fun args w => by kernel_rfl
theorem cf26 : ∀ args w, (callFunc 26 args).run Tryd.prog w = .ok (.enter 26 args) w := fun args w => by kernel_rfl
theorem cf27 : ∀ args w, (callFunc 27 args).run Tryd.prog w = .ok (.enter 27 args) w := fun args w => by kernel_rfl
theorem cf28 : ∀ args w, (callFunc 28 args).run Tryd.prog w = .ok (.enter 28 args) w := fun args w => by kernel_rfl
theorem cf29 : ∀ args w, (callFunc 29 args).run Tryd.prog w = .ok (.enter 29 args) w := fun args w => by kernel_rfl
theorem cf30 : ∀ args w, (callFunc 30 args).run Tryd.prog w = .ok (.enter 30 args) w := fun args w => by kernel_rfl
theorem cf31 : ∀ args w, (callFunc 31 args).run Tryd.prog w = .ok (.enter 31 args) w := fun args w => by kernel_rfl
theorem cf32 : ∀ args w, (callFunc 32 args).run Tryd.prog w = .ok (.enter 32 args) w := fun args w => by kernel_rfl
theorem cf33 : ∀ args w, (callFunc 33 args).run Tryd.prog w = .ok (.enter 33 args) w := fun args w => by kernel_rfl
theorem cf34 : ∀ args w, (callFunc 34 args).run Tryd.prog w = .ok (.enter 34 args) w := fun args w => by kernel_rfl
theorem cf35 : ∀ args w, (callFunc 35 args).run Tryd.prog w = .ok (.enter 35 args) w := fun args w => by kernel_rfl
theorem cf36 : ∀ args w, (callFunc 36 args).run Tryd.prog w = .ok (.enter 36 args) w := fun args w => by kernel_rfl
theorem cf37 : ∀ args w, (callFunc 37 args).run Tryd.prog w = .ok (.enter 37 args) w := fun args w => by kernel_rfl
theorem cf38 : ∀ args w, (callFunc 38 args).run Tryd.prog w = .ok (.enter 38 args) w := fun args w => by kernel_rfl
theorem cf39 : ∀ args w, (callFunc 39 args).run Tryd.prog w = .ok (.enter 39 args) w := fun args w => by kernel_rfl
theorem cf40 : ∀ args w, (callFunc 40 args).run Tryd.prog w = .ok (.enter 40 args) w := fun args w => by kernel_rfl
theorem cf41 : ∀ args w, (callFunc 41 args).run Tryd.prog w = .ok (.enter 41 args) w := fun args w => by kernel_rfl
theorem cf42 : ∀ args w, (callFunc 42 args).run Tryd.prog w = .ok (.enter 42 args) w := fun args w => by kernel_rfl
theorem cf43 : ∀ args w, (callFunc 43 args).run Tryd.prog w = .ok (.enter 43 args) w := fun args w => by kernel_rfl
theorem cf44 : ∀ args w, (callFunc 44 args).run Tryd.prog w = .ok (.enter 44 args) w := fun args w => by kernel_rfl
theorem cf45 : ∀ args w, (callFunc 45 args).run Tryd.prog w = .ok (.enter 45 args) w := fun args w => by kernel_rfl
theorem cf46 : ∀ args w, (callFunc 46 args).run Tryd.prog w = .ok (.enter 46 args) w := fun args w => by kernel_rfl
theorem cf47 : ∀ args w, (callFunc 47 args).run Tryd.prog w = .ok (.enter 47 args) w := fun args w => by kernel_rfl
theorem cf49 : ∀ args w, (callFunc 49 args).run Tryd.prog w = .ok (.enter 49 args) w := fun args w => by kernel_rfl
theorem cf55 : ∀ args w, (callFunc 55 args).run Tryd.prog w = .ok (.enter 55 args) w := fun args w => by kernel_rfl
theorem cf56 : ∀ args w, (callFunc 56 args).run Tryd.prog w = .ok (.enter 56 args) w := fun args w => by kernel_rfl
theorem cf58 : ∀ args w, (callFunc 58 args).run Tryd.prog w = .ok (.enter 58 args) w := fun args w => by kernel_rfl
theorem cf6 : ∀ args w, (callFunc 6 args).run Tryd.prog w = .ok (.enter 6 args) w := fun args w => by kernel_rfl
theorem cf7 : ∀ args w, (callFunc 7 args).run Tryd.prog w = .ok (.enter 7 args) w := fun args w => by kernel_rfl
theorem cf8 : ∀ args w, (callFunc 8 args).run Tryd.prog w = .ok (.enter 8 args) w := fun args w => by kernel_rfl
theorem cf9 : ∀ args w, (callFunc 9 args).run Tryd.prog w = .ok (.enter 9 args) w := fun args w => by kernel_rfl
theorem fd32_0 : ∀ (ad : Addr) (w : World), (Instr.fieldAt 32 (.pointer (some ad)) 0).run Tryd.prog w = .ok (.pointer (some (ad.add 0))) w := fun ad w => by kernel_rfl
theorem fd32_1 : ∀ (ad : Addr) (w : World), (Instr.fieldAt 32 (.pointer (some ad)) 1).run Tryd.prog w = .ok (.pointer (some (ad.add 1))) w := fun ad w => by kernel_rfl
theorem fd32_2 : ∀ (ad : Addr) (w : World), (Instr.fieldAt 32 (.pointer (some ad)) 2).run Tryd.prog w = .ok (.pointer (some (ad.add 2))) w := fun ad w => by kernel_rfl
theorem fd32_3 : ∀ (ad : Addr) (w : World), (Instr.fieldAt 32 (.pointer (some ad)) 3).run Tryd.prog w = .ok (.pointer (some (ad.add 3))) w := fun ad w => by kernel_rfl
theorem fd32_4 : ∀ (ad : Addr) (w : World), (Instr.fieldAt 32 (.pointer (some ad)) 4).run Tryd.prog w = .ok (.pointer (some (ad.add 4))) w := fun ad w => by kernel_rfl
theorem fd32_5 : ∀ (ad : Addr) (w : World), (Instr.fieldAt 32 (.pointer (some ad)) 5).run Tryd.prog w = .ok (.pointer (some (ad.add 5))) w := fun ad w => by kernel_rfl
theorem fd32_6 : ∀ (ad : Addr) (w : World), (Instr.fieldAt 32 (.pointer (some ad)) 6).run Tryd.prog w = .ok (.pointer (some (ad.add 6))) w := fun ad w => by kernel_rfl
theorem fd32_7 : ∀ (ad : Addr) (w : World), (Instr.fieldAt 32 (.pointer (some ad)) 7).run Tryd.prog w = .ok (.pointer (some (ad.add 7))) w := fun ad w => by kernel_rfl
theorem fd37_0 : ∀ (ad : Addr) (w : World), (Instr.fieldAt 37 (.pointer (some ad)) 0).run Tryd.prog w = .ok (.pointer (some (ad.add 0))) w := fun ad w => by kernel_rfl
theorem fd37_1 : ∀ (ad : Addr) (w : World), (Instr.fieldAt 37 (.pointer (some ad)) 1).run Tryd.prog w = .ok (.pointer (some (ad.add 1))) w := fun ad w => by kernel_rfl
theorem fd42_0 : ∀ (ad : Addr) (w : World), (Instr.fieldAt 42 (.pointer (some ad)) 0).run Tryd.prog w = .ok (.pointer (some (ad.add 0))) w := fun ad w => by kernel_rfl
theorem fd42_1 : ∀ (ad : Addr) (w : World), (Instr.fieldAt 42 (.pointer (some ad)) 1).run Tryd.prog w = .ok (.pointer (some (ad.add 1))) w := fun ad w => by kernel_rfl
theorem fd42_2 : ∀ (ad : Addr) (w : World), (Instr.fieldAt 42 (.pointer (some ad)) 2).run Tryd.prog w = .ok (.pointer (some (ad.add 2))) w := fun ad w => by kernel_rfl
theorem fd52_0 : ∀ (ad : Addr) (w : World), (Instr.fieldAt 52 (.pointer (some ad)) 0).run Tryd.prog w = .ok (.pointer (some (ad.add 0))) w := fun ad w => by kernel_rfl
theorem fd52_1 : ∀ (ad : Addr) (w : World), (Instr.fieldAt 52 (.pointer (some ad)) 1).run Tryd.prog w = .ok (.pointer (some (ad.add 1))) w := fun ad w => by kernel_rfl
theorem fd52_2 : ∀ (ad : Addr) (w : World), (Instr.fieldAt 52 (.pointer (some ad)) 2).run Tryd.prog w = .ok (.pointer (some (ad.add 2))) w := fun ad w => by kernel_rfl
theorem fd52_5 : ∀ (ad : Addr) (w : World), (Instr.fieldAt 52 (.pointer (some ad)) 5).run Tryd.prog w = .ok (.pointer (some (ad.add 5))) w := fun ad w => by kernel_rfl
theorem fd52_6 : ∀ (ad : Addr) (w : World), (Instr.fieldAt 52 (.pointer (some ad)) 6).run Tryd.prog w = .ok (.pointer (some (ad.add 6))) w := fun ad w => by kernel_rfl
theorem fd64_0 : ∀ (ad : Addr) (w : World), (Instr.fieldAt 64 (.pointer (some ad)) 0).run Tryd.prog w = .ok (.pointer (some (ad.add 0))) w := fun ad w => by kernel_rfl
theorem fd64_1 : ∀ (ad : Addr) (w : World), (Instr.fieldAt 64 (.pointer (some ad)) 1).run Tryd.prog w = .ok (.pointer (some (ad.add 1))) w := fun ad w => by kernel_rfl
theorem fd64_2 : ∀ (ad : Addr) (w : World), (Instr.fieldAt 64 (.pointer (some ad)) 2).run Tryd.prog w = .ok (.pointer (some (ad.add 2))) w := fun ad w => by kernel_rfl
theorem fd64_3 : ∀ (ad : Addr) (w : World), (Instr.fieldAt 64 (.pointer (some ad)) 3).run Tryd.prog w = .ok (.pointer (some (ad.add 3))) w := fun ad w => by kernel_rfl
theorem fd64_4 : ∀ (ad : Addr) (w : World), (Instr.fieldAt 64 (.pointer (some ad)) 4).run Tryd.prog w = .ok (.pointer (some (ad.add 4))) w := fun ad w => by kernel_rfl
theorem fd75_0 : ∀ (ad : Addr) (w : World), (Instr.fieldAt 75 (.pointer (some ad)) 0).run Tryd.prog w = .ok (.pointer (some (ad.add 0))) w := fun ad w => by kernel_rfl
theorem fd75_1 : ∀ (ad : Addr) (w : World), (Instr.fieldAt 75 (.pointer (some ad)) 1).run Tryd.prog w = .ok (.pointer (some (ad.add 1))) w := fun ad w => by kernel_rfl
theorem fd75_2 : ∀ (ad : Addr) (w : World), (Instr.fieldAt 75 (.pointer (some ad)) 2).run Tryd.prog w = .ok (.pointer (some (ad.add 2))) w := fun ad w => by kernel_rfl
theorem fd75_3 : ∀ (ad : Addr) (w : World), (Instr.fieldAt 75 (.pointer (some ad)) 3).run Tryd.prog w = .ok (.pointer (some (ad.add 3))) w := fun ad w => by kernel_rfl
theorem fd75_4 : ∀ (ad : Addr) (w : World), (Instr.fieldAt 75 (.pointer (some ad)) 4).run Tryd.prog w = .ok (.pointer (some (ad.add 4))) w := fun ad w => by kernel_rfl
theorem fd75_5 : ∀ (ad : Addr) (w : World), (Instr.fieldAt 75 (.pointer (some ad)) 5).run Tryd.prog w = .ok (.pointer (some (ad.add 5))) w := fun ad w => by kernel_rfl
theorem fd78_0 : ∀ (ad : Addr) (w : World), (Instr.fieldAt 78 (.pointer (some ad)) 0).run Tryd.prog w = .ok (.pointer (some (ad.add 0))) w := fun ad w => by kernel_rfl
theorem fd78_1 : ∀ (ad : Addr) (w : World), (Instr.fieldAt 78 (.pointer (some ad)) 1).run Tryd.prog w = .ok (.pointer (some (ad.add 1))) w := fun ad w => by kernel_rfl
theorem fd82_0 : ∀ (ad : Addr) (w : World), (Instr.fieldAt 82 (.pointer (some ad)) 0).run Tryd.prog w = .ok (.pointer (some (ad.add 0))) w := fun ad w => by kernel_rfl
theorem fd82_1 : ∀ (ad : Addr) (w : World), (Instr.fieldAt 82 (.pointer (some ad)) 1).run Tryd.prog w = .ok (.pointer (some (ad.add 1))) w := fun ad w => by kernel_rfl
theorem fd82_2 : ∀ (ad : Addr) (w : World), (Instr.fieldAt 82 (.pointer (some ad)) 2).run Tryd.prog w = .ok (.pointer (some (ad.add 2))) w := fun ad w => by kernel_rfl
theorem fd82_3 : ∀ (ad : Addr) (w : World), (Instr.fieldAt 82 (.pointer (some ad)) 3).run Tryd.prog w = .ok (.pointer (some (ad.add 3))) w := fun ad w => by kernel_rfl
theorem fd82_4 : ∀ (ad : Addr) (w : World), (Instr.fieldAt 82 (.pointer (some ad)) 4).run Tryd.prog w = .ok (.pointer (some (ad.add 4))) w := fun ad w => by kernel_rfl
theorem fd82_5 : ∀ (ad : Addr) (w : World), (Instr.fieldAt 82 (.pointer (some ad)) 5).run Tryd.prog w = .ok (.pointer (some (ad.add 5))) w := fun ad w => by kernel_rfl
theorem fd82_6 : ∀ (ad : Addr) (w : World), (Instr.fieldAt 82 (.pointer (some ad)) 6).run Tryd.prog w = .ok (.pointer (some (ad.add 6))) w := fun ad w => by kernel_rfl
theorem mo : Tryd.prog.follows .mixedOrders = true := by kernel_rfl
theorem sz23 : (Tryd.prog.info? 23).map (·.size) = some 1 := by kernel_rfl
theorem sz28 : (Tryd.prog.info? 28).map (·.size) = some 1 := by kernel_rfl
theorem sz29 : (Tryd.prog.info? 29).map (·.size) = some 1 := by kernel_rfl
theorem sz3 : (Tryd.prog.info? 3).map (·.size) = some 1 := by kernel_rfl
theorem sz30 : (Tryd.prog.info? 30).map (·.size) = some 1 := by kernel_rfl
theorem sz34 : (Tryd.prog.info? 34).map (·.size) = some 1 := by kernel_rfl
theorem sz37 : (Tryd.prog.info? 37).map (·.size) = some 2 := by kernel_rfl
theorem sz4 : (Tryd.prog.info? 4).map (·.size) = some 1 := by kernel_rfl
theorem sz42 : (Tryd.prog.info? 42).map (·.size) = some 3 := by kernel_rfl
theorem sz5 : (Tryd.prog.info? 5).map (·.size) = some 1 := by kernel_rfl
theorem sz52 : (Tryd.prog.info? 52).map (·.size) = some 8 := by kernel_rfl
theorem sz82 : (Tryd.prog.info? 82).map (·.size) = some 7 := by kernel_rfl
theorem sz9 : (Tryd.prog.info? 9).map (·.size) = some 1 := by kernel_rfl
theorem ze34 : ∀ w, (zeroValue 34).run Tryd.prog w = .ok (.int .i64 0) w := fun w => by kernel_rfl
theorem ze37 : ∀ w, (zeroValue 37).run Tryd.prog w = .ok (.agg #[.int .u8 0, .slice none 0 0]) w := fun w => by kernel_rfl
theorem ze4 : ∀ w, (zeroValue 4).run Tryd.prog w = .ok (.bool false) w := fun w => by kernel_rfl
theorem ze42 : ∀ w, (zeroValue 42).run Tryd.prog w = .ok (.agg #[.string ⟨#[]⟩, .slice none 0 0, .int .i64 0]) w := fun w => by kernel_rfl
theorem ze82 : ∀ w, (zeroValue 82).run Tryd.prog w = .ok (.agg #[.int .i64 0, .int .u32 0, .slice none 0 0, .slice none 0 0, .int .i64 0, .int .i64 0, .int .i64 0]) w := fun w => by kernel_rfl
end Go.Proofs.YtjnifnlkicajhaaDoor.Fs
