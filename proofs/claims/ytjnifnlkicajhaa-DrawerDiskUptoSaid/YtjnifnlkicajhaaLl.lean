/-
  The law's one call of both disks: Append. No condition is put on any statement here.
-/
import Derived.Test.YtjnifnlkicajhaaLk
namespace Go.Proofs.Ytjnifnlkicajhaa.La
open Go Vc Hp Fs Da Pm Dd Rd
set_option maxRecDepth 4000
theorem BSl.eff {w c k q d j w' c'} (h : BSl w c k q d) (hc : Eff j w c w' c') (hj : ¬ j k) : BSl w' c' k q d := by
  obtain ⟨g', cs', hp', ho', h3, h4⟩ := h.at'
  exact ⟨h.len, h.cap, g', cs', hp', ho'.eff hc hj, h3, h4⟩
theorem BSl.drew {w c k q d} (h : BSl w c k q d) : BSl w.drew c k q d := h.eff (j := fun _ => False) (Eff.refl _ _ _).drew id
theorem BSl.raise {w c k q d i} {v : Int} {K : World → Prop} (h : BSl w c k q d) (hi : i < q.len) (hk : ∀ w' d', BSl w' c k q d' → Eff (· = k) w c w' c → K w') : ix q.p q.len (i : Int) 1 fun a => st w a (.int .u8 (IntKind.u8.wrap v)) K := by
  obtain ⟨g, cs, hp, ho, h1, h2⟩ := h.at'
  obtain ⟨x, hx⟩ := some_u8 v
  refine ⟨_, hp, by omega, by omega, ?_⟩
  rw [hx, Int.toNat_natCast, Nat.mul_one]
  refine st_own ho (by omega) fun w' ho' hc hs => ?_
  obtain ⟨e', he'⟩ := h.turn ho ho' hc
  exact hk w' e' he' ((Eff.refl _ _ _).one hc (fun _ => ho.col))
section
variable {w : World} {c : Col} {pb d m b b3 : Nat} {L : List FE} {z : Sl} {gl : List (AF × Sl)} {A : PD} {x0 x1 x2 : Int} {x3 : Bool} {x4 : ByteArray} {x5 x6 : Sl} {x7 : Int} {Q : Bool → World → Prop}
theorem k18_spec {y18 : Bool} {s : Sl} {e : List UInt8} (S : St w c pb d m L b z gl A) (o : Own w c b3 6 (.cells (opc x0 x1 x2 x3 x4 x5 x6 x7) 38 (0, 0))) (hs : BSl w c 3 s e) (hn : x4.size < 9223372036854775807) (hl : e.length ≤ 1099511627776)
    (H : ∀ w' c' L' z' gl' A', St w' c' pb d m L' b z' gl' A' → Eff own w c w' c' → Q true w') : levylaw19_pair_disk.k18 (some ⟨pb, 0, none⟩) ⟨b3, 0, none⟩ s true y18 Q w := by
  unfold levylaw19_pair_disk.k18 levylaw19_pair_disk.k17
  cases y18 with
  | false =>
    rw [if_neg Bool.false_ne_true]
    exact H w c _ _ _ _ S (Eff.refl _ _ _)
  | true =>
    rw [if_pos rfl]
    have E0 : Eff own w c w.drew c := (Eff.refl _ _ _).drew
    have S := S.drew
    have o := o.drew
    have hs := hs.drew
    refine nn_some (ld_own S.pair (x := some ⟨d, 0, none⟩) rfl (ld_own (x := x4) o rfl ?_))
    refine append_spec S.dd S.ok hs.src (by decide) hs.cap hl fun w2 c2 L2 D2 E2 => ?_
    have p2 := (S.pair.eff E2 (by decide)).drew
    have o2 := (o.eff E2 (by decide)).drew
    have s2 := (hs.eff E2 (by decide)).drew
    have hsl := hs.len
    refine nn_some (ld_own p2 (x := some ⟨b, 0, none⟩) rfl (ld_own (x := x4) o2 rfl ?_))
    refine append_bytes (s := ⟨none, 0, 0⟩) (b := []) (ns := e) (c := c2) (k := 7) (Row.nil _ _ _ _ _) s2.src.1 (by show 0 + s.len ≤ _; omega) fun s3 w3 c3 r3 ch3 ex3 hb3 hl3 => ?_
    have ch3 := noneM ch3
    have R3 := (S.rd.eff E2 (by decide)).drew.new ch3 ex3
    have p3 := p2.chg ch3 ex3 id
    have o3 := o2.chg ch3 ex3 id
    have D3 := D2.drew.new ch3 ex3
    refine ⟨⟨by rw [add_mk, p3.cell]; rfl, by rw [add_mk, o3.cell]; rfl, trivial⟩, ?_⟩
    refine rappend_spec R3 S.ok hn (Row.src r3) (by decide) r3.2.1 (by simpa using hl) fun w4 c4 z4 gl4 R4 E4 => ?_
    have p4 := p3.eff E4 (by decide)
    have o4 := o3.eff E4 (by decide)
    refine ⟨⟨by rw [add_mk, p4.cell]; rfl, by rw [add_mk, o4.cell]; rfl, trivial⟩, ?_⟩
    rw [List.nil_append, same_eq]
    rw [List.nil_append] at R4
    exact H w4 c4 _ _ _ _ ⟨p4, D3.eff E4 (by decide), R4, S.ok.append x4 e⟩ (((E0.trans (E2.mono own1)).drew.new ch3 ex3).trans (E4.mono own2))
end
end Go.Proofs.Ytjnifnlkicajhaa.La
