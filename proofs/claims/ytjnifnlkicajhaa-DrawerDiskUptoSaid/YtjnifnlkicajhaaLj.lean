/-
  The law's one call of both disks: Sync, Trim, Remove, Arm, Fail, Crash. No condition is put on any statement here.
-/
import Derived.Test.YtjnifnlkicajhaaLi
namespace Go.Proofs.Ytjnifnlkicajhaa.La
open Go Vc Hp Fs Da Pm Dd Rd
set_option maxRecDepth 4000

theorem same_eq (e : Int) : (e == e) = true := by simp
/-- the op's own cells -/
def opc (x0 x1 x2 : Int) (x3 : Bool) (x4 : ByteArray) (x5 x6 : Sl) (x7 : Int) : Array Value := #[.int .i64 x0, .int .i64 x1, .int .i64 x2, .bool x3, .string x4, x5.val, x6.val, .int .u32 x7]
section
variable {w : World} {c : Col} {pb d m b b3 : Nat} {L : List FE} {z : Sl} {gl : List (AF × Sl)} {A : PD} {x0 x1 x2 : Int} {x3 : Bool} {x4 : ByteArray} {x5 x6 : Sl} {x7 : Int} {Q : Bool → World → Prop}
theorem pd_sync (S : St w c pb d m L b z gl A) (o : Own w c b3 6 (.cells (opc x0 x1 x2 x3 x4 x5 x6 x7) 38 (0, 0))) (hn : x4.size < 9223372036854775807)
    (H : ∀ w' c' L' z' gl' A', St w' c' pb d m L' b z' gl' A' → Eff own w c w' c' → Q true w') :
    nn (some ⟨pb, 0, none⟩) fun x105_69 => ld Value.pointer (World.drew w) (x105_69.add 0) fun x107_70 => ld Value.string (World.drew w) ((⟨b3, 0, none⟩ : Addr).add 4) fun x109_71 => drawer_Disk_Sync x107_70 x109_71 (fun x110_72_0 w => nn (some ⟨pb, 0, none⟩) fun x113_73 => ld Value.pointer (World.drew w) (x113_73.add 2) fun x115_74 => ld Value.string (World.drew w) ((⟨b3, 0, none⟩ : Addr).add 4) fun x117_75 => levyref19_Disk_Sync x115_74 x117_75 (fun x118_76_0 w => ((World.cell? w (x113_73.add 2) = some (.pointer x115_74) ∧ World.cell? w ((⟨b3, 0, none⟩ : Addr).add 4) = some (.string x117_75) ∧ True) ∧ Q (x110_72_0 == x118_76_0) w)) (World.drew w)) (World.drew w) := by
  have E0 : Eff own w c w.drew c := (Eff.refl _ _ _).drew
  have S := S.drew
  have o := o.drew
  refine nn_some (ld_own S.pair (x := some ⟨d, 0, none⟩) rfl (ld_own (x := x4) o rfl ?_))
  refine sync_spec S.dd S.ok fun w2 L2 D2 E2 => ?_
  have p2 := (S.pair.eff E2 (by decide)).drew
  have o2 := (o.eff E2 (by decide)).drew
  refine nn_some (ld_own p2 (x := some ⟨b, 0, none⟩) rfl (ld_own (x := x4) o2 rfl ?_))
  refine rsync_spec (S.rd.eff E2 (by decide)).drew S.ok hn fun w3 z3 gl3 R3 E3 => ?_
  have p3 := p2.eff E3 (by decide)
  have o3 := o2.eff E3 (by decide)
  refine ⟨⟨by rw [add_mk, p3.cell]; rfl, by rw [add_mk, o3.cell]; rfl, trivial⟩, ?_⟩
  rw [same_eq]
  exact H w3 c _ _ _ _ ⟨p3, D2.drew.eff E3 (by decide), R3, S.ok.sync x4⟩ ((E0.trans (E2.mono own1)).drew.trans (E3.mono own2))
theorem pd_trim (S : St w c pb d m L b z gl A) (o : Own w c b3 6 (.cells (opc x0 x1 x2 x3 x4 x5 x6 x7) 38 (0, 0))) (hn : x4.size < 9223372036854775807) 
    (H : ∀ w' c' L' z' gl' A', St w' c' pb d m L' b z' gl' A' → Eff own w c w' c' → Q true w') :
    nn (some ⟨pb, 0, none⟩) fun x123_82 => ld Value.pointer (World.drew w) (x123_82.add 0) fun x125_83 => ld Value.string (World.drew w) ((⟨b3, 0, none⟩ : Addr).add 4) fun x127_84 => ld (Value.int .i64) (World.drew w) ((⟨b3, 0, none⟩ : Addr).add 1) fun x129_85 => drawer_Disk_Trim x125_83 x127_84 x129_85 (fun x130_86_0 w => nn (some ⟨pb, 0, none⟩) fun x133_87 => ld Value.pointer (World.drew w) (x133_87.add 2) fun x135_88 => ld Value.string (World.drew w) ((⟨b3, 0, none⟩ : Addr).add 4) fun x137_89 => ld (Value.int .i64) (World.drew w) ((⟨b3, 0, none⟩ : Addr).add 1) fun x139_90 => levyref19_Disk_Trim x135_88 x137_89 x139_90 (fun x140_91_0 w => ((World.cell? w (x133_87.add 2) = some (.pointer x135_88) ∧ World.cell? w ((⟨b3, 0, none⟩ : Addr).add 4) = some (.string x137_89) ∧ World.cell? w ((⟨b3, 0, none⟩ : Addr).add 1) = some (.int .i64 x139_90) ∧ True) ∧ Q (x130_86_0 == x140_91_0) w)) (World.drew w)) (World.drew w) := by
  have E0 : Eff own w c w.drew c := (Eff.refl _ _ _).drew
  have S := S.drew
  have o := o.drew
  refine nn_some (ld_own S.pair (x := some ⟨d, 0, none⟩) rfl (ld_own (x := x4) o rfl (ld_own (x := x1) o rfl ?_)))
  refine trim_spec S.dd S.ok fun w2 c2 L2 D2 E2 => ?_
  have p2 := (S.pair.eff E2 (by decide)).drew
  have o2 := (o.eff E2 (by decide)).drew
  refine nn_some (ld_own p2 (x := some ⟨b, 0, none⟩) rfl (ld_own (x := x4) o2 rfl (ld_own (x := x1) o2 rfl ?_)))
  refine rtrim_spec (S.rd.eff E2 (by decide)).drew S.ok hn fun w3 c3 z3 gl3 R3 E3 => ?_
  have p3 := p2.eff E3 (by decide)
  have o3 := o2.eff E3 (by decide)
  refine ⟨⟨by rw [add_mk, p3.cell]; rfl, by rw [add_mk, o3.cell]; rfl, by rw [add_mk, o3.cell]; rfl, trivial⟩, ?_⟩
  rw [same_eq]
  exact H w3 c3 _ _ _ _ ⟨p3, D2.drew.eff E3 (by decide), R3, S.ok.trim x4 x1⟩ ((E0.trans (E2.mono own1)).drew.trans (E3.mono own2))
theorem pd_remove (S : St w c pb d m L b z gl A) (o : Own w c b3 6 (.cells (opc x0 x1 x2 x3 x4 x5 x6 x7) 38 (0, 0))) (hn : x4.size < 9223372036854775807) 
    (H : ∀ w' c' L' z' gl' A', St w' c' pb d m L' b z' gl' A' → Eff own w c w' c' → Q true w') :
    nn (some ⟨pb, 0, none⟩) fun x145_97 => ld Value.pointer (World.drew w) (x145_97.add 0) fun x147_98 => ld Value.string (World.drew w) ((⟨b3, 0, none⟩ : Addr).add 4) fun x149_99 => drawer_Disk_Remove x147_98 x149_99 (fun x150_100_0 w => nn (some ⟨pb, 0, none⟩) fun x153_101 => ld Value.pointer (World.drew w) (x153_101.add 2) fun x155_102 => ld Value.string (World.drew w) ((⟨b3, 0, none⟩ : Addr).add 4) fun x157_103 => levyref19_Disk_Remove x155_102 x157_103 (fun x158_104_0 w => ((World.cell? w (x153_101.add 2) = some (.pointer x155_102) ∧ World.cell? w ((⟨b3, 0, none⟩ : Addr).add 4) = some (.string x157_103) ∧ True) ∧ Q (x150_100_0 == x158_104_0) w)) (World.drew w)) (World.drew w) := by
  have E0 : Eff own w c w.drew c := (Eff.refl _ _ _).drew
  have S := S.drew
  have o := o.drew
  refine nn_some (ld_own S.pair (x := some ⟨d, 0, none⟩) rfl (ld_own (x := x4) o rfl ?_))
  refine remove_spec S.dd S.ok fun w2 c2 L2 D2 E2 => ?_
  have p2 := (S.pair.eff E2 (by decide)).drew
  have o2 := (o.eff E2 (by decide)).drew
  refine nn_some (ld_own p2 (x := some ⟨b, 0, none⟩) rfl (ld_own (x := x4) o2 rfl ?_))
  refine rremove_spec (S.rd.eff E2 (by decide)).drew S.ok hn fun w3 c3 z3 gl3 R3 E3 => ?_
  have p3 := p2.eff E3 (by decide)
  have o3 := o2.eff E3 (by decide)
  refine ⟨⟨by rw [add_mk, p3.cell]; rfl, by rw [add_mk, o3.cell]; rfl, trivial⟩, ?_⟩
  rw [same_eq]
  exact H w3 c3 _ _ _ _ ⟨p3, D2.drew.eff E3 (by decide), R3, S.ok.remove x4⟩ ((E0.trans (E2.mono own1)).drew.trans (E3.mono own2))
theorem pd_read (S : St w c pb d m L b z gl A) (o : Own w c b3 6 (.cells (opc x0 x1 x2 x3 x4 x5 x6 x7) 38 (0, 0))) (hn : x4.size < 9223372036854775807) 
    (H : ∀ w' c' L' z' gl' A', St w' c' pb d m L' b z' gl' A' → Eff own w c w' c' → Q true w') :
    nn (some ⟨pb, 0, none⟩) fun x164_110 => ld Value.pointer (World.drew w) (x164_110.add 0) fun x166_111 => ld Value.string (World.drew w) ((⟨b3, 0, none⟩ : Addr).add 4) fun x168_112 => drawer_Disk_Read x166_111 x168_112 (fun x169_113_0 x169_113_1 w => nn (some ⟨pb, 0, none⟩) fun x174_114 => ld Value.pointer (World.drew w) (x174_114.add 2) fun x176_115 => ld Value.string (World.drew w) ((⟨b3, 0, none⟩ : Addr).add 4) fun x178_116 => levyref19_Disk_Read x176_115 x178_116 (fun x179_117_0 x179_117_1 w => (if (x169_113_1 == x179_117_1) = true then levylaw19_sameBytes x169_113_0 x179_117_0 (fun x188_121_0 w => levylaw19_pair_disk.k118 x188_121_0 Q w) w else levylaw19_pair_disk.k118 false Q w)) (World.drew w)) (World.drew w) := by
  have E0 : Eff own w c w.drew c := (Eff.refl _ _ _).drew
  have S := S.drew
  have o := o.drew
  refine nn_some (ld_own S.pair (x := some ⟨d, 0, none⟩) rfl (ld_own (x := x4) o rfl ?_))
  refine read_spec 7 S.dd S.ok fun w2 c2 s2 r2 ch2 ex2 => ?_
  have S2 := (S.new ch2 ex2).drew
  have o2 := (o.chg ch2 ex2 id).drew
  refine nn_some (ld_own S2.pair (x := some ⟨b, 0, none⟩) rfl (ld_own (x := x4) o2 rfl ?_))
  refine rread_spec 7 S2.rd S.ok hn fun w3 c3 s3 r3 ch3 ex3 => ?_
  have S3 := S2.new ch3 ex3
  have r2' := r2.drew.chg ch3 ex3 (fun _ _ => id)
  rw [if_pos (same_eq _)]
  refine sameBytes_spec r2'.reads r3.reads ?_
  unfold levylaw19_pair_disk.k118
  rw [decide_eq_true rfl]
  exact H w3 c3 _ _ _ _ S3 ((E0.new ch2 ex2).drew.new ch3 ex3)
theorem pd_arm (S : St w c pb d m L b z gl A) (o : Own w c b3 6 (.cells (opc x0 x1 x2 x3 x4 x5 x6 x7) 38 (0, 0))) (h0 : -maxI - 1 ≤ x1) (h1 : x1 ≤ maxI) 
    (H : ∀ w' c' L' z' gl' A', St w' c' pb d m L' b z' gl' A' → Eff own w c w' c' → Q true w') :
    nn (some ⟨pb, 0, none⟩) fun x193_127 => ld Value.pointer (World.drew w) (x193_127.add 0) fun x195_128 => ld (Value.int .i64) (World.drew w) ((⟨b3, 0, none⟩ : Addr).add 1) fun x197_129 => drawer_Disk_Arm x195_128 x197_129 (fun  w => nn (some ⟨pb, 0, none⟩) fun x200_131 => ld Value.pointer (World.drew w) (x200_131.add 2) fun x202_132 => ld (Value.int .i64) (World.drew w) ((⟨b3, 0, none⟩ : Addr).add 1) fun x204_133 => levyref19_Disk_Arm x202_132 x204_133 (fun  w => levylaw19_pair_disk.k3  Q w) (World.drew w)) (World.drew w) := by
  have E0 : Eff own w c w.drew c := (Eff.refl _ _ _).drew
  have S := S.drew
  have o := o.drew
  refine nn_some (ld_own S.pair (x := some ⟨d, 0, none⟩) rfl (ld_own (x := x1) o rfl ?_))
  refine arm_spec S.dd fun w2 D2 ch2 hs2 => ?_
  have E2 : Eff (· = 1) w.drew c w2 c := (Eff.refl _ _ _).one ch2 (fun _ => S.dd.dcol)
  have p2 := (S.pair.eff E2 (by decide)).drew
  have o2 := (o.eff E2 (by decide)).drew
  refine nn_some (ld_own p2 (x := some ⟨b, 0, none⟩) rfl (ld_own (x := x1) o2 rfl ?_))
  refine rarm_spec (S.rd.eff E2 (by decide)).drew fun w3 R3 ch3 hs3 => ?_
  have E3 : Eff (· = 2) w2.drew c w3 c := (Eff.refl _ _ _).one ch3 (fun _ => S.rd.own.col)
  have p3 := p2.eff E3 (by decide)
  unfold levylaw19_pair_disk.k3
  exact H w3 c _ _ _ _ ⟨p3, D2.drew.eff E3 (by decide), R3, S.ok.arm h0 h1⟩ ((E0.trans (E2.mono own1)).drew.trans (E3.mono own2))
theorem pd_fail (S : St w c pb d m L b z gl A) (o : Own w c b3 6 (.cells (opc x0 x1 x2 x3 x4 x5 x6 x7) 38 (0, 0))) (h0 : -maxI - 1 ≤ x1) (h1 : x1 ≤ maxI) (h2 : -maxI - 1 ≤ x2) (h3 : x2 ≤ maxI) 
    (H : ∀ w' c' L' z' gl' A', St w' c' pb d m L' b z' gl' A' → Eff own w c w' c' → Q true w') :
    nn (some ⟨pb, 0, none⟩) fun x209_139 => ld Value.pointer (World.drew w) (x209_139.add 0) fun x211_140 => ld (Value.int .i64) (World.drew w) ((⟨b3, 0, none⟩ : Addr).add 1) fun x213_141 => ld (Value.int .i64) (World.drew w) ((⟨b3, 0, none⟩ : Addr).add 2) fun x215_142 => drawer_Disk_Fail x211_140 x213_141 x215_142 (fun  w => nn (some ⟨pb, 0, none⟩) fun x218_144 => ld Value.pointer (World.drew w) (x218_144.add 2) fun x220_145 => ld (Value.int .i64) (World.drew w) ((⟨b3, 0, none⟩ : Addr).add 1) fun x222_146 => ld (Value.int .i64) (World.drew w) ((⟨b3, 0, none⟩ : Addr).add 2) fun x224_147 => levyref19_Disk_Fail x220_145 x222_146 x224_147 (fun  w => levylaw19_pair_disk.k3  Q w) (World.drew w)) (World.drew w) := by
  have E0 : Eff own w c w.drew c := (Eff.refl _ _ _).drew
  have S := S.drew
  have o := o.drew
  refine nn_some (ld_own S.pair (x := some ⟨d, 0, none⟩) rfl (ld_own (x := x1) o rfl (ld_own (x := x2) o rfl ?_)))
  refine rig_spec S.dd fun w2 D2 ch2 hs2 => ?_
  have E2 : Eff (· = 1) w.drew c w2 c := (Eff.refl _ _ _).one ch2 (fun _ => S.dd.dcol)
  have p2 := (S.pair.eff E2 (by decide)).drew
  have o2 := (o.eff E2 (by decide)).drew
  refine nn_some (ld_own p2 (x := some ⟨b, 0, none⟩) rfl (ld_own (x := x1) o2 rfl (ld_own (x := x2) o2 rfl ?_)))
  refine rrig_spec (S.rd.eff E2 (by decide)).drew fun w3 R3 ch3 hs3 => ?_
  have E3 : Eff (· = 2) w2.drew c w3 c := (Eff.refl _ _ _).one ch3 (fun _ => S.rd.own.col)
  have p3 := p2.eff E3 (by decide)
  unfold levylaw19_pair_disk.k3
  exact H w3 c _ _ _ _ ⟨p3, D2.drew.eff E3 (by decide), R3, S.ok.rig ⟨h0, h1⟩ ⟨h2, h3⟩⟩ ((E0.trans (E2.mono own1)).drew.trans (E3.mono own2))
theorem pd_crash (S : St w c pb d m L b z gl A) (o : Own w c b3 6 (.cells (opc x0 x1 x2 x3 x4 x5 x6 x7) 38 (0, 0))) 
    (H : ∀ w' c' L' z' gl' A', St w' c' pb d m L' b z' gl' A' → Eff own w c w' c' → Q true w') :
    nn (some ⟨pb, 0, none⟩) fun x229_153 => ld Value.pointer w (x229_153.add 0) fun x231_154 => drawer_Disk_Crash x231_154 (fun  w => nn (some ⟨pb, 0, none⟩) fun x234_156 => ld Value.pointer w (x234_156.add 2) fun x236_157 => levyref19_Disk_Crash x236_157 (fun  w => levylaw19_pair_disk.k3  Q w) w) w := by
  refine nn_some (ld_own S.pair (x := some ⟨d, 0, none⟩) rfl ?_)
  refine crash_spec S.dd fun w2 D2 ch2 hs2 => ?_
  have E2 : Eff (· = 1) w c w2 c := (Eff.refl _ _ _).one ch2 (fun _ => S.dd.dcol)
  have p2 := S.pair.eff E2 (by decide)
  refine nn_some (ld_own p2 (x := some ⟨b, 0, none⟩) rfl ?_)
  unfold levyref19_Disk_Crash
  refine falls_spec (S.rd.eff E2 (by decide)) fun w3 R3 ch3 hs3 => ?_
  have E3 : Eff (· = 2) w2 c w3 c := (Eff.refl _ _ _).one ch3 (fun _ => S.rd.own.col)
  have p3 := p2.eff E3 (by decide)
  unfold levylaw19_pair_disk.k3
  exact H w3 c _ _ _ _ ⟨p3, D2.eff E3 (by decide), R3, S.ok.fall⟩ ((E2.mono own1).trans (E3.mono own2))
end
end Go.Proofs.Ytjnifnlkicajhaa.La
