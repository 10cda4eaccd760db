/-
  The law's one call of both disks: Files, Restart. No condition is put on any statement here.
-/
import Derived.Test.YtjnifnlkicajhaaLj
namespace Go.Proofs.Ytjnifnlkicajhaa.La
open Go Vc Hp Fs Da Pm Dd Rd
set_option maxRecDepth 4000
section
variable {w : World} {c : Col} {pb d m b b3 : Nat} {L : List FE} {z : Sl} {gl : List (AF × Sl)} {A : PD} {x0 x1 x2 : Int} {x3 : Bool} {x4 : ByteArray} {x5 x6 : Sl} {x7 : Int} {Q : Bool → World → Prop}
theorem pd_files (S : St w c pb d m L b z gl A) (o : Own w c b3 6 (.cells (opc x0 x1 x2 x3 x4 x5 x6 x7) 38 (0, 0))) 
    (H : ∀ w' c' L' z' gl' A', St w' c' pb d m L' b z' gl' A' → Eff own w c w' c' → Q true w') :
    nn (some ⟨pb, 0, none⟩) fun x263_181 => ld Value.pointer (World.drew w) (x263_181.add 0) fun x265_182 => nn (some ⟨pb, 0, none⟩) fun x268_183 => ld Value.pointer (World.drew w) (x268_183.add 2) fun x270_184 => drawer_Disk_Files x265_182 (fun x266_185_0 w => ((World.cell? w (x263_181.add 0) = some (.pointer x265_182) ∧ World.cell? w (x268_183.add 2) = some (.pointer x270_184) ∧ True) ∧ levyref19_Disk_Files x270_184 (fun x271_186_0 w => levylaw19_sameFiles x266_185_0 x271_186_0 (fun x272_187_0 w => Q x272_187_0 w) w) w)) (World.drew w) := by
  have E0 : Eff own w c w.drew c := (Eff.refl _ _ _).drew
  have S := S.drew
  refine nn_some (ld_own S.pair (x := some ⟨d, 0, none⟩) rfl (nn_some (ld_own S.pair (x := some ⟨b, 0, none⟩) rfl ?_)))
  refine Dd.files_spec 7 S.dd S.ok fun w2 c2 s2 f2 F2 e2 ch2 ex2 => ?_
  have S2 := S.new ch2 ex2
  refine ⟨⟨by rw [add_mk, S2.pair.cell]; rfl, by rw [add_mk, S2.pair.cell]; rfl, trivial⟩, ?_⟩
  refine rfiles_spec 7 S2.rd S.ok fun w3 c3 s3 f3 F3 e3 ch3 ex3 => ?_
  have S3 := S2.new ch3 ex3
  have hc := S.ok.count
  refine sameFiles_spec (F2.new ch3 ex3).src F3.src (e2.trans e3.symm) (by have := congrArg List.length e2; simp at this; omega) fun w4 hw4 => ?_
  have ch4 := heapEff c3 hw4
  exact H w4 c3 _ _ _ _ (S3.new ch4 (Ext.refl _ _)) (((E0.new ch2 ex2).new ch3 ex3).new ch4 (Ext.refl _ _))
theorem pd_restart (S : St w c pb d m L b z gl A) (o : Own w c b3 6 (.cells (opc x0 x1 x2 x3 x4 x5 x6 x7) 38 (0, 0))) {keep : List Int} (hk : Src w c 0 1 x6 (keep.map (Value.int .i64))) (hkl : keep.length ≤ 1073741824) 
    (H : ∀ w' c' L' z' gl' A', St w' c' pb d m L' b z' gl' A' → Eff own w c w' c' → Q true w') :
    al w (.cells #[.slice none 0 0, .slice none 0 0, .slice none 0 0, .slice none 0 0, .slice none 0 0, .slice none 0 0, .slice none 0 0, .slice none 0 0, .slice none 0 0, .slice none 0 0, .slice none 0 0, .slice none 0 0, .slice none 0 0, .slice none 0 0, .slice none 0 0, .slice none 0 0, .slice none 0 0, .slice none 0 0, .slice none 0 0, .slice none 0 0, .slice none 0 0] 65) fun x241_163 w => nn (some ⟨pb, 0, none⟩) fun x243_165 => ld Value.pointer (World.drew w) (x243_165.add 0) fun x245_166 => ld Sl.val (World.drew w) ((⟨b3, 0, none⟩ : Addr).add 6) fun x248_167 => levyroom_Room_Ints (some x241_163) x248_167 (fun x249_168_0 w => ((World.cell? w (x243_165.add 0) = some (.pointer x245_166) ∧ World.cell? w ((⟨b3, 0, none⟩ : Addr).add 6) = some (Sl.val x248_167) ∧ True) ∧ drawer_Disk_Restart x245_166 x249_168_0 (fun  w => nn (some ⟨pb, 0, none⟩) fun x252_170 => ld Value.pointer (World.drew w) (x252_170.add 2) fun x254_171 => ld Sl.val (World.drew w) ((⟨b3, 0, none⟩ : Addr).add 6) fun x256_172 => levyref19_Disk_Restart x254_171 x256_172 (fun  w => levyroom_Room_Hold (some x241_163) (fun x259_174_0 w => Q x259_174_0 w) w) (World.drew w)) w)) (World.drew w) := by
  refine al_own (c := c) 3 fun r w1 c1 or1 ch1 ex1 hr1 => ?_
  have E1 : Eff own w c w1.drew c1 := ((Eff.refl _ _ _).new ch1 ex1).drew
  have S1 := (S.new ch1 ex1).drew
  have o1 := (o.chg ch1 ex1 id).drew
  have R1 := (nilRoom or1).drew
  have k1 := (hk.chg ch1 ex1 (fun _ _ => id)).drew
  refine nn_some (ld_own S1.pair (x := some ⟨d, 0, none⟩) rfl (ld_own (x := x6) o1 rfl ?_))
  refine ints_spec R1 k1 hkl (by simp) fun w2 c2 s2 i2 full R2 src2 ch2 ex2 => ?_
  have E2 : Eff (· = 3) w1.drew c1 w2 c2 := Eff.of ch2 ex2 fun g _ hg => by
    rcases hg with rfl | hg
    · exact or1.col
    · cases (show (none : Option Nat) = some g from hg)
  have S2 := S1.eff E2 (by decide) (by decide) (by decide)
  have o2 := o1.eff E2 (by decide)
  have k2 := k1.eff E2 (by decide)
  refine ⟨⟨by rw [add_mk, S2.pair.cell]; rfl, by rw [add_mk, o2.cell]; rfl, trivial⟩, ?_⟩
  refine restart_spec S2.dd S.ok src2 (by decide) fun w3 c3 L3 D3 E3 => ?_
  have p3 := (S2.pair.eff E3 (by decide)).drew
  have o3 := (o2.eff E3 (by decide)).drew
  have k3 := (k2.eff E3 (by decide)).drew
  refine nn_some (ld_own p3 (x := some ⟨b, 0, none⟩) rfl (ld_own (x := x6) o3 rfl ?_))
  refine rrestart_spec (S2.rd.eff E3 (by decide)).drew S.ok k3 (by decide) fun w4 c4 z4 gl4 R4 E4 => ?_
  have p4 := p3.eff E4 (by decide)
  have room4 := (R2.eff E3 (by decide)).drew.eff E4 (by decide)
  refine Hold_spec room4 (by simp) (by simp) (by simp) fun w5 c5 ch5 ex5 => ?_
  have S5 : St w4 c4 pb d m L3 b z4 gl4 (A.restart keep) := ⟨p4, D3.drew.eff E4 (by decide), R4, S.ok.restart keep⟩
  exact H w5 c5 _ _ _ _ (S5.new ch5 ex5) ((((E1.trans (E2.mono own3)).trans (E3.mono own1)).drew.trans (E4.mono own2)).new ch5 ex5)
end
end Go.Proofs.Ytjnifnlkicajhaa.La
