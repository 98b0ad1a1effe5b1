/-
  A superblock's block: walked.
-/
import Derived.Test.YtcklgaenedlbiaaSuperIs
import Derived.Test.YtcklgaenedlbiaaSlabRef2
namespace Go.Proofs.Ytcklgaenedlbiaa
open Go.RowKit

def nameS : ByteArray := ⟨#[103, 114, 97, 110, 103, 101, 114]⟩
/-- a superblock's text -/
def superT (s : Sup) : List UInt8 := nameS.data.toList ++ beAll 2 [s.blocks, s.root, s.from_, s.nodes] ++ beAll 4 [s.items, s.weight]
theorem superT_length (s : Sup) : (superT s).length = 23 := by
  simp only [superT, List.length_append, beAll_length]
  rfl
def superS (s : Sup) : ByteArray := ⟨(superT s).toArray⟩
theorem superS_size (s : Sup) : (superS s).size = 23 := by show (superT s).toArray.size = 23; rw [List.size_toArray, superT_length]
/-- its numbers -/
theorem good_facts {s : Sup} (h : goodB s = true) : ∃ p : Pl, p = planOf s.blocks.toNat ∧ 64 ≤ s.blocks ∧ s.blocks ≤ 512 ∧ 1 ≤ s.epoch ∧ s.epoch ≤ 2147483647 ∧ 0 ≤ s.root ∧ s.root < s.blocks ∧ (p.first : Int) ≤ s.root ∧ 0 ≤ s.from_ ∧ s.from_ < p.log ∧ p.log ≤ 64 ∧ 1 ≤ s.nodes ∧ s.nodes ≤ p.half ∧ p.half ≤ 256 ∧ 0 ≤ s.weight ∧ s.weight ≤ p.cap ∧ p.cap ≤ 60000 ∧ 0 ≤ s.items ∧ s.items ≤ s.weight := by
  unfold goodB goodC at h
  obtain ⟨h1, h2, h3, h4, h5, h6, h7, h8, h9, h10, h11, h12, h13⟩ := of_decide_eq_true h
  obtain ⟨l8, log, first, data, half, leaves, cap, hp, r1, r2, r3, r4, r5, r6, r7, r8, r9, r10, r11, r12, r13, r14, r15⟩ := plan_facts (n := s.blocks.toNat) (by omega) (by omega)
  rw [hp] at h5 h7 h9 h11
  simp only at h7 h9 h11
  have hk : 0 ≤ s.root ∧ s.root < s.blocks ∧ (first : Int) ≤ s.root := by
    unfold kindOf at h5
    simp only at h5
    split at h5
    · omega
    · split at h5
      · omega
      · split at h5
        · omega
        · omega
  exact ⟨_, rfl, by omega, by omega, by omega, by omega, by omega, by omega, by rw [hp]; simp only; omega, by omega, by rw [hp]; simp only; omega, by rw [hp]; simp only; omega, by omega, by rw [hp]; simp only; omega, by rw [hp]; simp only; omega, by omega, by rw [hp]; simp only; omega, by rw [hp]; simp only; omega, by omega, by omega⟩
theorem numOk_all {w : Int} (hw : isW w = true) {ns : List Int} (h : ∀ n ∈ ns, fitsB w n = true) : numOk w ns = true := by
  show (isW w && ns.all (fitsB w)) = true
  rw [hw, List.all_eq_true.2 h]; rfl
theorem cell_of_below {w w' : World} {a : Addr} {v : Value} (hb : Below w.heap.size w w') (h : w.cell? a = some v) : w'.cell? a = some v := by
  rw [hb.cell (p := a) (World.block_lt_of_cell? w _ h)]; exact h
def superLayV (s : Sup) : ByteArray × Int := if goodB s then stampV s.epoch 0 (superS s) else (⟨#[]⟩, 1)

set_option maxHeartbeats 8000000 in
set_option maxRecDepth 100000 in
theorem super_Lay (s : Sup) (w : World) :
    Calls Try.prog 62 #[.agg s.vals] w fun e w' => e = .returned (.tuple #[.string (superLayV s).1, .int .i64 (superLayV s).2]) ∧ Below w.heap.size w w' := by
  have HI := hid (fun w' => super_is s w')
  obtain ⟨g, hg⟩ : ∃ g, g = goodB s := ⟨_, rfl⟩
  rw [← hg] at HI
  cases g with
  | false =>
    have hv : superLayV s = (⟨#[]⟩, 1) := by unfold superLayV; rw [← hg]; rfl
    obtain ⟨v, hvv⟩ : ∃ v, v = superLayV s := ⟨_, rfl⟩
    rw [← hvv] at hv ⊢
    have HV := hid hv; clear hv hvv hg
    obtain ⟨B, E, R, F, N, I, W⟩ := s
    simp only [Sup.vals] at HI ⊢
    have HA := hid (below_alloc w (.cells #[.int .i64 B, .int .i64 E, .int .i64 R, .int .i64 F, .int .i64 N, .int .i64 I, .int .i64 W] 60))
    go_enter Try.func62, Try.ntmps62
    go_wp2_with fail
    refine (HI.out _).mono ?_; rintro e w1 ⟨rfl, hb1⟩
    have H1 := hid (bt HA.out hb1); clear hb1 HI
    go_wp2_with fail
    go_ret2
    exact ⟨by rw [HV.out]; rfl, H1.out⟩
  | true =>
    obtain ⟨p, hp, f1, f2, f3, f4, f5, f6, f6', f7, f8, f9, f10, f11, f12, f13, f14, f15, f16, f17⟩ := good_facts hg.symm
    have hv : superLayV s = stampV s.epoch 0 (superS s) := by unfold superLayV; rw [← hg]; rfl
    have o1 : numOk 2 [s.blocks, s.root, s.from_, s.nodes] = true := numOk_all (by decide) (by
      intro n hn; simp at hn; rcases hn with rfl | rfl | rfl | rfl <;> simp [fitsB] <;> omega)
    have o2 : numOk 4 [s.items, s.weight] = true := numOk_all (by decide) (by
      intro n hn; simp at hn; rcases hn with rfl | rfl <;> simp [fitsB] <;> omega)
    have HST := hid (fun w' => slab_Stamp s.epoch 0 (superS s) w')
    obtain ⟨v, hvv⟩ : ∃ v, v = superLayV s := ⟨_, rfl⟩
    rw [← hv, ← hvv] at HST
    rw [← hvv]
    obtain ⟨T, hT⟩ : ∃ T, T = superT s := ⟨_, rfl⟩
    have hTS : superS s = ⟨T.toArray⟩ := by rw [hT]; rfl
    rw [hTS] at HST
    unfold superT at hT
    have O1 := hid o1; have O2 := hid o2; have HT := hid hT
    clear hv hvv hg o1 o2 hT hTS hp
    obtain ⟨B, E, R, F, N, I, W⟩ := s
    simp only [Sup.vals] at HI ⊢
    simp only at HST O1 O2 HT f1 f2 f3 f4 f5 f6 f7 f8 f10 f11 f13 f14 f16 f17
    have HA := hid (below_alloc w (.cells #[.int .i64 B, .int .i64 E, .int .i64 R, .int .i64 F, .int .i64 N, .int .i64 I, .int .i64 W] 60))
    have HN := hid (Blk.new w #[.int .i64 B, .int .i64 E, .int .i64 R, .int .i64 F, .int .i64 N, .int .i64 I, .int .i64 W] 60)
    clear f1 f2 f5 f6 f6' f7 f8 f9 f10 f11 f12 f13 f14 f15 f16 f17
    go_enter Try.func62, Try.ntmps62
    go_wp2_with fail
    refine (HI.out _).mono ?_; rintro e w1 ⟨rfl, hb1⟩
    have H1 := hid (And.intro (bt HA.out hb1) (HN.out.belowS hb1)); clear hb1 HI
    have P0 := hid (Pen.new (Below.refl w1.heap.size w1))
    go_wp2_with fail
    refine (pen_Raw P0.out nameS (by show 0 + 7 ≤ _; omega)).mono ?_; rintro e w2 ⟨rfl, P2⟩
    have HP2 := hid P2; clear P2 P0
    obtain ⟨x0, x1, x2, x3, x4, x5, x6⟩ := cells7 (H1.out.2.belowS HP2.out.bel)
    go_wp2_with fail
    refine (pen_Num HP2.out 2 [B, R, F, N] #[.int .i64 B, .int .i64 R, .int .i64 F, .int .i64 N] 3 rfl 4 (by simp) (by show 7 + 8 * 4 ≤ _; omega)).mono ?_
    rintro e w3 ⟨rfl, P3⟩
    rw [O1.out] at P3 ⊢
    simp only [if_true] at P3 ⊢
    have HP3 := hid P3; clear P3 HP2 x0 x1 x2 x3 x4 x5 x6
    obtain ⟨x0, x1, x2, x3, x4, x5, x6⟩ := cells7 (H1.out.2.belowS HP3.out.bel)
    go_wp2_with fail
    refine (pen_Num HP3.out 4 [I, W] #[.int .i64 I, .int .i64 W] 3 rfl 2 (by simp) (by rw [List.length_append, beAll_length]; show 7 + 8 + 8 * 2 ≤ _; omega)).mono ?_
    rintro e w4 ⟨rfl, P4⟩
    rw [O2.out] at P4 ⊢
    simp only [if_true] at P4 ⊢
    rw [show [] ++ nameS.data.toList ++ beAll (2 : Int).toNat [B, R, F, N] ++ beAll (4 : Int).toNat [I, W] = T from HT.out.symm] at P4
    have HP4 := hid P4; clear P4 HP3 x0 x1 x2 x3 x4 x5 x6
    obtain ⟨x0, x1, x2, x3, x4, x5, x6⟩ := cells7 (H1.out.2.belowS HP4.out.bel)
    have c1 : w4.cell? ⟨w.heap.size, 1, none⟩ = some (.int .i64 E) := x1
    have KB : Hid (Calls Try.prog 84 #[.pointer (some ⟨w1.heap.size, 0, none⟩)] w4.drew fun e w' => e = .returned (.string ⟨T.toArray⟩) ∧ Below w.heap.size w w' ∧ w'.cell? ⟨w.heap.size, 1, none⟩ = some (.int .i64 E)) := by
      refine (pen_Bytes (HP4.out.below (Below.drew (Below.refl _ _)))).mono ?_
      rintro e w' ⟨rfl, P⟩
      exact ⟨rfl, bt H1.out.1 P.bel, (H1.out.2.belowS P.bel).at rfl⟩
    clear x0 x1 x2 x3 x4 x5 x6
    go_wp2_with fail
    go_region_held3 (fun wx => wx.cell? ⟨w.heap.size, 1, none⟩ = some (.int .i64 E))
      ((first | assumption))
      (first
        | (go_at_call 84; with_reducible refine KB.out.mono ?_; rintro e w5 ⟨rfl, hb5, hc5⟩)
        | (go_at_call 73; with_reducible refine (HST.out _).mono ?_; rintro e w6 ⟨rfl, hb6⟩; have hc6 := cell_of_below hb6 hc5))
    all_goals
      have H6 := hid (bt hb5 hb6)
      clear hb5 hb6 hc5 hc6 KB
      go_wp2_with fail
      go_ret2
      exact ⟨rfl, H6.out⟩
end Go.Proofs.Ytcklgaenedlbiaa
