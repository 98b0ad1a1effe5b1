/-
  How many texts a row has; a text read.
  A device of layer 3: what a world holds of it; what small deeds ask of it.
-/
import Derived.Test.YtcklgaenedlbiaaGreatGWalExact11
import Derived.Test.YtcklgaenedlbiaaGreatGWalExact07
import Derived.Test.YtcklgaenedlbiaaGreatProg
import Derived.Test.YtcklgaenedlbiaaGreatGWalExact05

namespace Go.Proofs.YtcklgaenedlbiaaGreat
open Go.RowKit

set_option maxHeartbeats 4000000 in
set_option maxRecDepth 100000 in
theorem rec_Count_any (A : Option Addr) (cap : Nat) (l : List Msg3) (hlen : l.length ≤ 1000) (w : World) (hr : Row w A (l.flatMap msgCells)) :
    Calls Tryz.prog 33 #[.slice A l.length cap] w fun e w' => e = .returned (.int .i64 ((g2 [] (l.filter isB)).length : Nat)) ∧ Below w.heap.size w w' := by
  have HR := hid hr; clear hr
  obtain ⟨n, hn⟩ : ∃ n, n = (g2 [] (l.filter isB)).length := ⟨_, rfl⟩
  rw [← hn]
  have HN := hid hn; clear hn
  go_enter Tryz.func33, Tryz.ntmps33
  go_wp2_with fail
  refine (Clone_msgs A cap l hlen w HR.out).mono ?_; rintro e w1 ⟨v, rfl, hown, hb1⟩
  have HOWN := hid hown; have HB1 := hid hb1
  clear hown hb1
  go_wp2_with fail
  refine (Delete_recs v w.heap.size l hlen w1 HOWN.out).mono ?_; rintro e w2 ⟨A2, cap2, rfl, hc2, hr2, hb2⟩
  have hb2' := hb2 w.heap.size (Nat.le_refl _) HB1.out.size
  have hfl : (l.filter isB).length ≤ 1000 := Nat.le_trans (List.length_filter_le _ _) hlen
  have H2 := hid (And.intro hc2 (And.intro hr2 (Below.trans HB1.out hb2')))
  have hcall := rec_split_yes A2 cap2 (l.filter isB) hfl hc2 (fun x hx => (List.mem_filter.1 hx).2) w2 hr2
  obtain ⟨m, hm⟩ : ∃ m, m = (l.filter isB).length := ⟨_, rfl⟩
  rw [← hm] at hcall ⊢
  have HC := hid hcall
  clear hc2 hr2 hb2 hb2' hfl hcall hm HOWN HB1
  go_wp2_with fail
  refine HC.out.mono ?_; rintro e w3 ⟨v3, cs, rfl, ho3, hc3, hb3⟩
  rw [← HN.out] at ho3
  obtain ⟨B, bcap, rfl, hrow⟩ := ownsRowF_row ho3
  have HB := hid (bt H2.out.2.2 hb3)
  clear ho3 hc3 hb3 hrow H2 HC
  go_wp2_with fail
  go_ret
  exact ⟨rfl, HB.out⟩

/-- so many messages read -/
def readN : Nat → ByteArray → Bool → List Msg3 × ByteArray × Bool
  | 0, r, b => ([], r, b)
  | n + 1, r, b => ((readN n r b).1 ++ [(readT (readN n r b).2.1 (readN n r b).2.2).1], (readT (readN n r b).2.1 (readN n r b).2.2).2.1, (readT (readN n r b).2.1 (readN n r b).2.2).2.2)
theorem readN_len : ∀ (n : Nat) (r : ByteArray) (b : Bool), (readN n r b).1.length = n
  | 0, _, _ => rfl
  | n + 1, r, b => by
    show ((readN n r b).1 ++ [_]).length = _
    rw [List.length_append, readN_len n r b]; rfl
theorem num1 (r : ByteArray) (b : Bool) : ∃ n : Nat, (numT r b 1).1 = (n : Int) ∧ n ≤ 255 := by
  unfold numT
  split
  · have h : be (r.data.toList.take (1 : Int).toNat) ≤ 255 := by
      rcases r.data.toList with _ | ⟨x, l⟩
      · decide
      · show (0 * 256 + x.toNat) ≤ 255
        have := x.toNat_lt; omega
    rw [if_neg (by omega)]
    exact ⟨_, rfl, h⟩
  · exact ⟨0, rfl, by omega⟩
/-- a text's messages -/
def parseR (s : ByteArray) : Option (List Msg3) :=
  if 218 < s.size then none
  else if endE (readN (numT s false 1).1.toNat (numT s false 1).2.1 (numT s false 1).2.2).2.1 (readN (numT s false 1).1.toNat (numT s false 1).2.1 (numT s false 1).2.2).2.2 = 0 ∧ (numT s false 1).1 ≠ 0 then some (readN (numT s false 1).1.toNat (numT s false 1).2.1 (numT s false 1).2.2).1
  else none
theorem ownsRowF_keepsR {w w' : World} {G : List Nat} {e : TypeId} {size n : Nat} {v : Value} {xs : List Value} (h : w.ownsRowF 0 e size v n xs) (hk : Keeps G w w') (hd : ∀ k, v.ownBlock = some k → k ∉ G) : w'.ownsRowF 0 e size v n xs := by
  refine ⟨h.1, ?_⟩
  rcases h.2 with hn | ⟨g, cap, cur, fz, hv, h0, hg, r⟩
  · exact .inl hn
  · refine .inr ⟨g, cap, cur, fz, hv, h0, ?_, r⟩
    rw [hk.block g (Array.getElem?_eq_some_iff.1 hg).1 (hd g (by rw [hv]; rfl))]; exact hg
theorem ownsRowF_cap {w : World} {e : TypeId} {size n : Nat} {v : Value} {xs : List Value} (h : w.ownsRowF 0 e size v n xs) : ∃ A cap, v = .slice A n cap ∧ n ≤ cap ∧ Row w A xs := by
  obtain ⟨A, cap, rfl, hr⟩ := ownsRowF_row h
  refine ⟨A, cap, rfl, ?_, hr⟩
  rcases h.2 with ⟨h, rfl⟩ | ⟨g, cap', cur, fz, h, _, _, _, hnc, _⟩
  · exact Nat.zero_le _
  · injection h with _ _ h; omega

def ParseOut (w w' : World) (s : ByteArray) (e : Ending) : Prop :=
  (parseR s = none → e = .returned (.tuple #[.slice none 0 0, .int .i64 5])) ∧ (∀ l, parseR s = some l → ∃ A cap, e = .returned (.tuple #[.slice A l.length cap, .int .i64 0]) ∧ l.length ≤ cap ∧ Row w' A (l.flatMap msgCells)) ∧ Below w.heap.size w w'

def ParseI (w wx : World) (p k : Nat) (r : ByteArray) (b : Bool) (y : Value) : Prop :=
  Below w.heap.size w wx ∧ InAt wx p (readN k r b).2.1 (readN k r b).2.2 ∧ wx.ownsRowF 0 39 3 y k ((readN k r b).1.flatMap msgCells) ∧ ∀ g, y.ownBlock = some g → w.heap.size ≤ g ∧ g ≠ p

set_option maxHeartbeats 8000000 in
set_option maxRecDepth 100000 in
theorem rec_Parse_any (s : ByteArray) (w : World) :
    Calls Tryz.prog 49 #[.string s] w fun e w' => ParseOut w w' s e := by
  obtain ⟨i0, hi0, hz0, hz1, hz2⟩ := info_parts info_msg
  have HI0 := hid hi0; have HZ0 := hid hz0; have HZ1 := hid hz1; have HZ2 := hid hz2
  clear hi0 hz0 hz1 hz2
  by_cases hs : 218 < s.size
  · have hs' : (218 : Int) < (s.size : Int) := by omega
    go_enter Tryz.func49, Tryz.ntmps49
    go_wp2_with fail
    go_ret2
    refine ⟨fun _ => rfl, fun l h => ?_, Below.refl _ _⟩
    unfold parseR at h
    rw [if_pos hs] at h
    cases h
  · have hs' : ¬ (218 : Int) < (s.size : Int) := by omega
    obtain ⟨⟨N, r, b⟩, ht⟩ : ∃ t, t = numT s false 1 := ⟨_, rfl⟩
    obtain ⟨n, hn, hn255⟩ := num1 s false
    rw [← ht] at hn
    simp only at hn
    subst hn
    have hP : parseR s = if endE (readN n r b).2.1 (readN n r b).2.2 = 0 ∧ (n : Int) ≠ 0 then some (readN n r b).1 else none := by
      unfold parseR
      rw [if_neg hs, ← ht]
      rfl
    have HT := hid ht; have HP := hid hP; clear ht hP
    go_enter Tryz.func49, Tryz.ntmps49
    go_wp2_with fail
    refine (pen_Of_any s _).mono ?_; rintro e w1 ⟨rfl, hb1, hi1, hsz1⟩
    obtain ⟨p, hp⟩ : ∃ p, p = w.heap.size := ⟨_, rfl⟩
    rw [← hp] at hi1 ⊢
    have H1 := hid (And.intro hb1 (And.intro hi1 hp))
    clear hb1 hi1 hsz1 hp
    go_wp2_with fail
    refine (In_Num_all p s false 1 _ H1.out.2.1).mono ?_; rintro e w2 ⟨rfl, hk2, hi2⟩
    rw [← HT.out] at hi2 ⊢
    have H2 := hid (show Below w.heap.size w w2 ∧ InAt w2 p r b ∧ p = w.heap.size from ⟨Keeps.below H1.out.1 hk2 (fun x hx => by simp at hx; rw [hx, H1.out.2.2]; exact Nat.le_refl _), hi2, H1.out.2.2⟩)
    clear hk2 hi2 H1 HT
    go_wp2_with fail
    go_loopg [13, 5] n (fun g x y wx => ∃ k : Nat, k + g = n ∧ x = .int .i64 k ∧ Hid (ParseI w wx p k r b y))
    case atStart => exact ⟨0, by omega, rfl, H2.out.1, H2.out.2.1, World.ownsRowF_nil _ _ _ _, by intro g h; cases h⟩
    case round =>
      obtain ⟨k, hk, rfl, HS⟩ := hrel
      by_cases hlt : k < n
      · obtain ⟨⟨x, r', b'⟩, hx⟩ : ∃ t, t = readT (readN k r b).2.1 (readN k r b).2.2 := ⟨_, rfl⟩
        have hcall := msg_Read_any p _ _ wr HS.out.2.1
        have hst : readN (k + 1) r b = ((readN k r b).1 ++ [x], r', b') := by
          show (_ ++ [_], _, _) = _
          rw [← hx]
        rw [← hx] at hcall
        obtain ⟨K, kk, v⟩ := x
        have HC := hid hcall; have HST := hid hst
        clear hcall hst hx
        go_wp2_with fail
        refine HC.out.mono ?_; rintro e w3 ⟨rfl, hk3, hi3⟩
        have H3 := hid (And.intro hk3 hi3)
        clear hk3 hi3
        go_wp2_with (with_reducible refine at_op (.call { callee := .builtin .append, args := #[.tmp 15, .tmp 18], argTypes := #[32, 32] }) rfl ?_; refine Stopped.go ?_)
        refine Stopped.mk ?_
        obtain ⟨s1, s2, s3, s4⟩ := HS.out
        have s3' := ownsRowF_keepsR s3 H3.out.1 (fun g hg => by simp; exact (s4 g hg).2)
        refine wpList_append_one rfl _ _ 32 39 rfl i0 _ 3 40 Tryz.underlying32 HI0.out HZ0.out HZ1.out HZ2.out rfl (by decide) _ k _ rfl w3 #[.int .i64 K, .string kk, .string v] rfl s3' w3.heap.size rfl 1 rfl rfl (by simp [Value.oneCell']) (by simp only [maxLen]; omega) (by omega) ?_
        intro V w5 hown hkp hvb
        have H5 : Hid (ParseI w w5 p (k + 1) r b V) := by
          have hpw : p < w3.heap.size := Blk.lt H3.out.2
          have b3 : Below w.heap.size w w3 := Keeps.below s1 H3.out.1 (fun x hx => by simp at hx; rw [hx, H2.out.2.2]; exact Nat.le_refl _)
          refine ⟨Keeps.below b3 hkp (fun x hx => (s4 x (Option.mem_toList.1 hx)).1), ?_, ?_, fun g hg => ?_⟩
          · rw [HST.out]
            exact Blk.keeps H3.out.2 hkp (fun h => (s4 p (Option.mem_toList.1 h)).2 rfl)
          · rw [HST.out, List.flatMap_append]
            simpa [msgCells] using hown
          · rcases hvb g hg with h | h
            · exact s4 g h
            · have := b3.size; exact ⟨by omega, by omega⟩
        clear s1 s2 s3 s4 s3' hown hkp hvb HS H3 HC HST
        go_wp2_with fail
        go_roundg (n - (k + 1))
        case measure => omega
        case rel => exact ⟨k + 1, by omega, by go_num, H5⟩
      · have hkn : k = n := by omega
        subst hkn
        clear hlt hk
        obtain ⟨V, vcap, rfl, hvc, hvr⟩ := ownsRowF_cap HS.out.2.2.1
        have HV := hid (And.intro hvc hvr)
        clear hvc hvr
        go_wp2_with fail
        refine (In_End_any p _ _ _ HS.out.2.1).mono ?_; rintro e w4 ⟨rfl, rfl⟩
        obtain ⟨ee, hee⟩ : ∃ ee, ee = endE (readN k r b).2.1 (readN k r b).2.2 := ⟨_, rfl⟩
        rw [← hee] at HP ⊢
        have he : ee = 0 ∨ ee = 5 := by rw [hee]; unfold endE; split <;> simp
        clear hee
        rcases he with rfl | rfl
        · by_cases h0 : k = 0
          · subst h0
            go_wp2_with fail
            go_ret2
            refine ⟨fun _ => rfl, fun l h => ?_, HS.out.1⟩
            rw [HP.out, if_neg (by simp)] at h
            cases h
          · have h0' : ¬ (k : Int) = 0 := by omega
            go_wp2_with fail
            go_ret2
            refine ⟨fun h => ?_, fun l h => ?_, HS.out.1⟩
            · rw [HP.out, if_pos (by first | exact ⟨rfl, h0'⟩ | exact ⟨trivial, h0'⟩ | simp [h0])] at h; cases h
            · rw [HP.out, if_pos (by first | exact ⟨rfl, h0'⟩ | exact ⟨trivial, h0'⟩ | simp [h0])] at h
              injection h with h
              subst h
              rw [readN_len]
              exact ⟨V, vcap, rfl, HV.out.1, HV.out.2⟩
        · go_wp2_with fail
          go_ret2
          refine ⟨fun _ => rfl, fun l h => ?_, HS.out.1⟩
          rw [HP.out, if_neg (by simp)] at h
          cases h
end Go.Proofs.YtcklgaenedlbiaaGreat

namespace Go.Proofs.YtcklgaenedlbiaaGreat
open Go.RowKit

/-! ## what a device is -/

/-- a device: its bytes that are safe; its writes that are not; and the rest -/
structure Dv where
  safe : List UInt8
  loose : List (Nat × ByteArray)
  off : Bool
  fuse : Int
  keep : List Bool
  rd : Nat
  wr : Nat
  fl : Nat

def wrCells (x : Nat × ByteArray) : List Value := [.int .i64 x.1, .string x.2]
def bools (l : List Bool) : List Value := l.map Value.bool

/-- a sector of a block -/
def sect (b : ByteArray) (k : Nat) : List UInt8 := (b.data.toList.drop (64 * k)).take 64
theorem sect_length (b : ByteArray) (k : Nat) (hb : b.size = 256) (hk : k < 4) : (sect b k).length = 64 := by
  have : b.data.toList.length = 256 := by simpa using hb
  simp only [sect, List.length_take, List.length_drop]; omega
/-- a sector of a write, laid -/
def lay1 (s : List UInt8) (x : Nat × ByteArray) (k : Nat) : List UInt8 := over s (256 * x.1 + 64 * k) (sect x.2 k)
/-- the first k sectors of a write, laid -/
def layN (s : List UInt8) (x : Nat × ByteArray) (k : Nat) : List UInt8 := (List.range k).foldl (fun s k => lay1 s x k) s
def flushN (s : List UInt8) (l : List (Nat × ByteArray)) : List UInt8 := l.foldl (fun s x => layN s x 4) s
/-- of write number i the first k sectors, where they are kept -/
def cutK (keep : List Bool) (i : Nat) (s : List UInt8) (x : Nat × ByteArray) (k : Nat) : List UInt8 := (List.range k).foldl (fun s k => if keep.getD (4 * i + k) false then lay1 s x k else s) s
def cutN (keep : List Bool) (l : List (Nat × ByteArray)) (s : List UInt8) (n : Nat) : List UInt8 := (List.range n).foldl (fun s i => cutK keep i s (l.getD i default) 4) s

/-- what is asked of its numbers -/
structure DvOk (n : Nat) (d : Dv) : Prop where
  n1 : 1 ≤ n
  n2 : n ≤ 512
  size : d.safe.length = 256 * n
  loose : ∀ x ∈ d.loose, x.1 < n ∧ x.2.size = 256
  fuse : -1 ≤ d.fuse ∧ d.fuse ≤ 9223372036854775807

theorem lay1_length {n : Nat} (s : List UInt8) (x : Nat × ByteArray) (k : Nat) (hs : s.length = 256 * n) (hx : x.1 < n ∧ x.2.size = 256) (hk : k < 4) : (lay1 s x k).length = 256 * n := by
  unfold lay1
  rw [over_length _ _ _ (by rw [sect_length _ _ hx.2 hk]; have := hx.1; omega), hs]
theorem layN_length {n : Nat} (x : Nat × ByteArray) (hx : x.1 < n ∧ x.2.size = 256) : ∀ (k : Nat) (s : List UInt8), k ≤ 4 → s.length = 256 * n → (layN s x k).length = 256 * n
  | 0, s, _, hs => hs
  | k + 1, s, hk, hs => by
    unfold layN
    rw [List.range_succ, List.foldl_append]
    exact lay1_length _ x k (layN_length x hx k s (by omega) hs) hx (by omega)
theorem layN_succ (s : List UInt8) (x : Nat × ByteArray) (k : Nat) : layN s x (k + 1) = lay1 (layN s x k) x k := by
  unfold layN; rw [List.range_succ, List.foldl_append]; rfl
theorem cutK_succ (keep : List Bool) (i : Nat) (s : List UInt8) (x : Nat × ByteArray) (k : Nat) : cutK keep i s x (k + 1) = if keep.getD (4 * i + k) false then lay1 (cutK keep i s x k) x k else cutK keep i s x k := by
  unfold cutK; rw [List.range_succ, List.foldl_append]; rfl
theorem cutN_succ (keep : List Bool) (l : List (Nat × ByteArray)) (s : List UInt8) (n : Nat) : cutN keep l s (n + 1) = cutK keep n (cutN keep l s n) (l.getD n default) 4 := by
  unfold cutN; rw [List.range_succ, List.foldl_append]; rfl
theorem cutK_length {n : Nat} (keep : List Bool) (i : Nat) (x : Nat × ByteArray) (hx : x.1 < n ∧ x.2.size = 256) : ∀ (k : Nat) (s : List UInt8), k ≤ 4 → s.length = 256 * n → (cutK keep i s x k).length = 256 * n
  | 0, s, _, hs => hs
  | k + 1, s, hk, hs => by
    rw [cutK_succ]
    split
    · exact lay1_length _ x k (cutK_length keep i x hx k s (by omega) hs) hx (by omega)
    · exact cutK_length keep i x hx k s (by omega) hs
theorem cutN_length {n : Nat} (keep : List Bool) (l : List (Nat × ByteArray)) (hl : ∀ x ∈ l, x.1 < n ∧ x.2.size = 256) (s : List UInt8) (hs : s.length = 256 * n) : ∀ (m : Nat), m ≤ l.length → (cutN keep l s m).length = 256 * n
  | 0, _ => hs
  | m + 1, hm => by
    rw [cutN_succ]
    refine cutK_length keep m _ ?_ 4 _ (by omega) (cutN_length keep l hl s hs m (by omega))
    rw [List.getD_eq_getElem?_getD, List.getElem?_eq_getElem (by omega)]
    exact hl _ (List.getElem_mem _)
theorem flushN_length {n : Nat} : ∀ (l : List (Nat × ByteArray)) (s : List UInt8), (∀ x ∈ l, x.1 < n ∧ x.2.size = 256) → s.length = 256 * n → (flushN s l).length = 256 * n
  | [], s, _, hs => hs
  | x :: l, s, hl, hs => flushN_length l _ (fun y hy => hl y (List.mem_cons_of_mem _ hy)) (layN_length x (hl x (List.mem_cons_self ..)) 4 s (by omega) hs)

/-- the power goes -/
def Dv.cut (d : Dv) (keep : List Bool) : Dv := if d.off then d else { d with safe := cutN keep d.loose d.safe d.loose.length, loose := [], off := true }
/-- the fuse goes on -/
def Dv.burn (d : Dv) : Dv :=
  let c := if d.fuse = 0 then d.cut d.keep else d
  if !c.off && decide (0 < c.fuse) then { c with fuse := c.fuse - 1 } else c
def Dv.flush (d : Dv) : Dv := if d.burn.off then d.burn else { d.burn with safe := flushN d.burn.safe d.burn.loose, loose := [], fl := d.burn.fl + 1 }
def Dv.write (d : Dv) (x : Nat × ByteArray) : Dv := if d.burn.off then d.burn else { d.burn with loose := d.burn.loose ++ [x], wr := d.burn.wr + 1 }
def Dv.come (d : Dv) : Dv := if d.off then { d with off := false, fuse := -1 } else d
/-- what a block reads as -/
def Dv.read (d : Dv) (at_ : Nat) : ByteArray := match d.loose.reverse.find? (fun x => x.1 == at_) with
  | some x => x.2
  | none => ⟨((d.safe.drop (256 * at_)).take 256).toArray⟩

theorem DvOk.cut {n : Nat} {d : Dv} (h : DvOk n d) (keep : List Bool) : DvOk n (d.cut keep) := by
  unfold Dv.cut
  split
  · exact h
  · exact ⟨h.n1, h.n2, cutN_length keep d.loose h.loose d.safe h.size _ (Nat.le_refl _), by simp, h.fuse⟩
theorem DvOk.burn {n : Nat} {d : Dv} (h : DvOk n d) : DvOk n d.burn := by
  have h1 : DvOk n (if d.fuse = 0 then d.cut d.keep else d) := by split; exact h.cut _; exact h
  unfold Dv.burn
  simp only
  generalize (if d.fuse = 0 then d.cut d.keep else d) = c at *
  split
  · rename_i h2
    simp only [Bool.and_eq_true, decide_eq_true_eq] at h2
    have := h1.fuse
    exact ⟨h1.n1, h1.n2, h1.size, h1.loose, by simp only; omega⟩
  · exact h1
theorem DvOk.flush {n : Nat} {d : Dv} (h : DvOk n d) : DvOk n d.flush := by
  unfold Dv.flush
  split
  · exact h.burn
  · exact ⟨h.n1, h.n2, flushN_length _ _ h.burn.loose h.burn.size, by simp, h.burn.fuse⟩
theorem DvOk.write {n : Nat} {d : Dv} (h : DvOk n d) (x : Nat × ByteArray) (hx : x.1 < n ∧ x.2.size = 256) : DvOk n (d.write x) := by
  unfold Dv.write
  split
  · exact h.burn
  · refine ⟨h.n1, h.n2, h.burn.size, fun y hy => ?_, h.burn.fuse⟩
    rcases List.mem_append.1 hy with hy | hy
    · exact h.burn.loose y hy
    · simp at hy; subst hy; exact hx

theorem DvOk.come {n : Nat} {d : Dv} (h : DvOk n d) : DvOk n d.come := by
  unfold Dv.come
  split
  · exact ⟨h.n1, h.n2, h.size, h.loose, by simp⟩
  · exact h

/-! ## what a world holds of it -/

/-- owned rows are as they were -/
theorem ownsRowF_keeps {w w' : World} {G : List Nat} {e : TypeId} {size n : Nat} {v : Value} {xs : List Value} (h : w.ownsRowF 0 e size v n xs) (hk : Keeps G w w') (hd : ∀ k, v.ownBlock = some k → k ∉ G) : w'.ownsRowF 0 e size v n xs := by
  refine ⟨h.1, ?_⟩
  rcases h.2 with hn | ⟨g, cap, cur, fz, hv, h0, hg, r⟩
  · exact .inl hn
  · refine .inr ⟨g, cap, cur, fz, hv, h0, ?_, r⟩
    rw [hk.block g (Array.getElem?_eq_some_iff.1 hg).1 (hd g (by rw [hv]; rfl))]; exact hg
theorem ownsRowF_new {w : World} {e : TypeId} {size n : Nat} {v : Value} {xs : List Value} (h : w.ownsRowF 0 e size v n xs) : ∀ k, v.ownBlock = some k → k < w.heap.size := fun k hk => (h.lt k hk).2
/-- the block of an owned row is none of another type -/
theorem ownsRowF_ne {w : World} {e T : TypeId} {size n : Nat} {v : Value} {xs vs : List Value} {b : Nat} (h : w.ownsRowF 0 e size v n xs) (hb : Blk w b T vs) (hT : T ≠ e) : v.ownBlock ≠ some b := by
  intro hv
  rcases h.2 with ⟨rfl, _⟩ | ⟨g, cap, cur, fz, rfl, _, hg, _⟩
  · cases hv
  · simp [Value.ownBlock] at hv
    subst hv
    obtain ⟨fr, hb, _⟩ := hb
    rw [hb] at hg
    simp only [Option.some.injEq, Obj.cells.injEq] at hg
    exact hT hg.2.1
theorem ownsRowF_ne2 {w : World} {e e' : TypeId} {size n size' n' : Nat} {v v' : Value} {xs xs' : List Value} (h : w.ownsRowF 0 e size v n xs) (h' : w.ownsRowF 0 e' size' v' n' xs') (hT : e ≠ e') : ∀ k, v.ownBlock = some k → v'.ownBlock ≠ some k := by
  intro k hk hk'
  rcases h.2 with ⟨rfl, _⟩ | ⟨g, cap, cur, fz, rfl, _, hg, _⟩
  · cases hk
  · rcases h'.2 with ⟨rfl, _⟩ | ⟨g', cap', cur', fz', rfl, _, hg', _⟩
    · cases hk'
    · simp [Value.ownBlock] at hk hk'
      subst hk; subst hk'
      rw [hg] at hg'
      simp only [Option.some.injEq, Obj.cells.injEq] at hg'
      exact hT hg'.2.1
theorem keeps_setCell (w : World) (p : Addr) (v : Value) : Keeps [p.block] w (w.setCell p v) := (Keeps.refl _ w).setCell (by simp) v
theorem ownsRowF_setCell {w : World} {e T : TypeId} {size n : Nat} {v : Value} {xs vs : List Value} {b i : Nat} {u : Value} (h : w.ownsRowF 0 e size v n xs) (hb : Blk w b T vs) (hT : T ≠ e) : (w.setCell ⟨b, i, none⟩ u).ownsRowF 0 e size v n xs :=
  ownsRowF_keeps h (keeps_setCell w ⟨b, i, none⟩ u) (fun k hk hm => ownsRowF_ne h hb hT (by simp at hm; rw [hk, hm]))
/-- an owned row, as a row and a value -/
theorem ownsRowF_own {e : TypeId} {size n : Nat} {w : World} {v : Value} {xs : List Value} (h : w.ownsRowF 0 e size v n xs) : ∃ A cap, v = .slice A n cap ∧ Row w A xs ∧ (∀ a, A = some a → v.ownBlock = some a.block ∧ ∃ cs fr, w.heap[a.block]? = some (.cells cs e fr)) := by
  obtain ⟨A, cap, rfl, hr⟩ := ownsRowF_row h
  refine ⟨A, cap, rfl, hr, ?_⟩
  rintro a rfl
  rcases h.2 with ⟨h, _⟩ | ⟨g, cap, cur, fz, h, _, hg, _⟩
  · cases h
  · simp only [Value.slice.injEq, Option.some.injEq] at h
    obtain ⟨rfl, _⟩ := h
    exact ⟨rfl, _, _, hg⟩

/-- the cells of a device -/
def dvCells (d : Dv) (S : Nat) (L K : Value) : List Value := [.slice (some ⟨S, 0, none⟩) d.safe.length d.safe.length, L, .bool d.off, .int .i64 d.fuse, K, .int .i64 d.rd, .int .i64 d.wr, .int .i64 d.fl]
/-- the device's parts: S holds its bytes, L its writes, K what its fuse keeps -/
structure DevIn (w : World) (p : Nat) (d : Dv) (S : Nat) (L K : Value) : Prop where
  box : Blk w p 77 (dvCells d S L K)
  safe : Blk w S 5 (u8s d.safe)
  loose : w.ownsRowF 0 94 2 L d.loose.length (d.loose.flatMap wrCells)
  keep : w.ownsRowF 0 4 1 K d.keep.length (bools d.keep)
/-- of no blocks but F -/
structure DevOf (p : Nat) (S : Nat) (L K : Value) (F : List Nat) : Prop where
  box : p ∈ F
  safe : S ∈ F
  loose : ∀ k, L.ownBlock = some k → k ∈ F
  keep : ∀ k, K.ownBlock = some k → k ∈ F
/-- A device at block p, of the blocks F alone. -/
def DevAt (w : World) (p : Nat) (d : Dv) (F : List Nat) : Prop := (∀ k, k ∈ F → k < w.heap.size) ∧ ∃ S L K, DevIn w p d S L K ∧ DevOf p S L K F

theorem DevIn.keeps {w w' : World} {p S : Nat} {d : Dv} {L K : Value} {F G : List Nat} (h : DevIn w p d S L K) (hF : DevOf p S L K F) (hk : Keeps G w w') (hd : ∀ k, k ∈ F → k ∉ G) : DevIn w' p d S L K :=
  ⟨h.box.keeps hk (hd _ hF.box), h.safe.keeps hk (hd _ hF.safe), ownsRowF_keeps h.loose hk (fun k hk => hd _ (hF.loose k hk)), ownsRowF_keeps h.keep hk (fun k hk => hd _ (hF.keep k hk))⟩
theorem DevAt.sizes {w : World} {p : Nat} {d : Dv} {F : List Nat} (h : DevAt w p d F) : ∀ k, k ∈ F → k < w.heap.size := h.1
theorem DevAt.mem {w : World} {p : Nat} {d : Dv} {F : List Nat} (h : DevAt w p d F) : p ∈ F := by
  obtain ⟨_, S, L, K, _, hF⟩ := h; exact hF.box
theorem DevAt.keeps {w w' : World} {p : Nat} {d : Dv} {F G : List Nat} (h : DevAt w p d F) (hk : Keeps G w w') (hd : ∀ k, k ∈ F → k ∉ G) : DevAt w' p d F := by
  obtain ⟨h1, S, L, K, h2, hF⟩ := h
  exact ⟨fun k hk' => Nat.lt_of_lt_of_le (h1 k hk') hk.size, S, L, K, h2.keeps hF hk hd, hF⟩
theorem DevAt.below {w w' : World} {p : Nat} {d : Dv} {F : List Nat} (h : DevAt w p d F) (hb : Below w.heap.size w w') : DevAt w' p d F := h.keeps (G := []) (Keeps.of hb) (by simp)

/-- its cells -/
theorem DevIn.c0 {w : World} {p S : Nat} {d : Dv} {L K : Value} (h : DevIn w p d S L K) : w.cell? ⟨p, 0, none⟩ = some (.slice (some ⟨S, 0, none⟩) d.safe.length d.safe.length) := h.box.at rfl
theorem DevIn.c1 {w : World} {p S : Nat} {d : Dv} {L K : Value} (h : DevIn w p d S L K) : w.cell? ⟨p, 1, none⟩ = some L := h.box.at rfl
theorem DevIn.c2 {w : World} {p S : Nat} {d : Dv} {L K : Value} (h : DevIn w p d S L K) : w.cell? ⟨p, 2, none⟩ = some (.bool d.off) := h.box.at rfl
theorem DevIn.c3 {w : World} {p S : Nat} {d : Dv} {L K : Value} (h : DevIn w p d S L K) : w.cell? ⟨p, 3, none⟩ = some (.int .i64 d.fuse) := h.box.at rfl
theorem DevIn.c4 {w : World} {p S : Nat} {d : Dv} {L K : Value} (h : DevIn w p d S L K) : w.cell? ⟨p, 4, none⟩ = some K := h.box.at rfl
theorem DevIn.c5 {w : World} {p S : Nat} {d : Dv} {L K : Value} (h : DevIn w p d S L K) : w.cell? ⟨p, 5, none⟩ = some (.int .i64 d.rd) := h.box.at rfl
theorem DevIn.c6 {w : World} {p S : Nat} {d : Dv} {L K : Value} (h : DevIn w p d S L K) : w.cell? ⟨p, 6, none⟩ = some (.int .i64 d.wr) := h.box.at rfl
theorem DevIn.c7 {w : World} {p S : Nat} {d : Dv} {L K : Value} (h : DevIn w p d S L K) : w.cell? ⟨p, 7, none⟩ = some (.int .i64 d.fl) := h.box.at rfl
theorem DevIn.free {w : World} {p S : Nat} {d : Dv} {L K : Value} (h : DevIn w p d S L K) (i : Nat) (hi : i < 8) : w.frozen? ⟨p, i, none⟩ = false := h.box.free hi
theorem DevIn.ne {w : World} {p S : Nat} {d : Dv} {L K : Value} (h : DevIn w p d S L K) : S ≠ p := h.safe.ne h.box (by decide)

/-- one of its own cells is written, none of the rows -/
theorem DevIn.put {w : World} {p S : Nat} {d d' : Dv} {L K : Value} (h : DevIn w p d S L K) (i : Nat) (u : Value) (hc : (dvCells d S L K).set i u = dvCells d' S L K) (h1 : d'.safe = d.safe) (h2 : d'.loose = d.loose) (h3 : d'.keep = d.keep) : DevIn (w.setCell ⟨p, i, none⟩ u) p d' S L K :=
  ⟨hc ▸ h.box.set i u, by rw [h1]; exact h.safe.other _ _ h.ne, by rw [h2]; exact ownsRowF_setCell h.loose h.box (by decide), by rw [h3]; exact ownsRowF_setCell h.keep h.box (by decide)⟩
/-- its writes are gone -/
theorem DevIn.putL {w : World} {p S : Nat} {d : Dv} {L K L' : Value} {l : List (Nat × ByteArray)} (h : DevIn w p d S L K) (hl : w.ownsRowF 0 94 2 L' l.length (l.flatMap wrCells)) : DevIn (w.setCell ⟨p, 1, none⟩ L') p { d with loose := l } S L' K :=
  ⟨h.box.set 1 L', h.safe.other _ _ h.ne, ownsRowF_setCell hl h.box (by decide), ownsRowF_setCell h.keep h.box (by decide)⟩
theorem DevIn.putK {w : World} {p S : Nat} {d : Dv} {L K K' : Value} {l : List Bool} (h : DevIn w p d S L K) (hl : w.ownsRowF 0 4 1 K' l.length (bools l)) : DevIn (w.setCell ⟨p, 4, none⟩ K') p { d with keep := l } S L K' :=
  ⟨h.box.set 4 K', h.safe.other _ _ h.ne, ownsRowF_setCell h.loose h.box (by decide), ownsRowF_setCell hl h.box (by decide)⟩

/-- its writes lie elsewhere -/
theorem DevIn.moveL {w w' : World} {p S : Nat} {d : Dv} {L K L' : Value} {l : List (Nat × ByteArray)} (h : DevIn w p d S L K) (hk : Keeps L.ownBlock.toList w w') (hl : w'.ownsRowF 0 94 2 L' l.length (l.flatMap wrCells)) :
    Blk w' p 77 (dvCells d S L K) ∧ DevIn (w'.setCell ⟨p, 1, none⟩ L') p { d with loose := l } S L' K := by
  have hp : p ∉ L.ownBlock.toList := fun hm => ownsRowF_ne h.loose h.box (by decide) (Option.mem_toList.1 hm)
  have hS : S ∉ L.ownBlock.toList := fun hm => ownsRowF_ne h.loose h.safe (by decide) (Option.mem_toList.1 hm)
  have hb := h.box.keeps hk hp
  have hs := h.safe.keeps hk hS
  have hK := ownsRowF_keeps h.keep hk (fun k hk' hm => ownsRowF_ne2 h.keep h.loose (by decide) k hk' (Option.mem_toList.1 hm))
  exact ⟨hb, hb.set 1 L', hs.other _ _ h.ne, ownsRowF_setCell hl hb (by decide), ownsRowF_setCell hK hb (by decide)⟩
theorem DevIn.moveK {w w' : World} {p S : Nat} {d : Dv} {L K K' : Value} {l : List Bool} (h : DevIn w p d S L K) (hk : Keeps K.ownBlock.toList w w') (hl : w'.ownsRowF 0 4 1 K' l.length (bools l)) :
    Blk w' p 77 (dvCells d S L K) ∧ DevIn (w'.setCell ⟨p, 4, none⟩ K') p { d with keep := l } S L K' := by
  have hp : p ∉ K.ownBlock.toList := fun hm => ownsRowF_ne h.keep h.box (by decide) (Option.mem_toList.1 hm)
  have hS : S ∉ K.ownBlock.toList := fun hm => ownsRowF_ne h.keep h.safe (by decide) (Option.mem_toList.1 hm)
  have hb := h.box.keeps hk hp
  have hs := h.safe.keeps hk hS
  have hL := ownsRowF_keeps h.loose hk (fun k hk' hm => ownsRowF_ne2 h.loose h.keep (by decide) k hk' (Option.mem_toList.1 hm))
  exact ⟨hb, hb.set 4 K', hs.other _ _ h.ne, ownsRowF_setCell hL hb (by decide), ownsRowF_setCell hl hb (by decide)⟩

/-- its safe bytes are others -/
theorem DevIn.safeTo {w w' : World} {p S : Nat} {d : Dv} {L K : Value} (h : DevIn w p d S L K) (hk : Keeps [S] w w') (s : List UInt8) (hs : s.length = d.safe.length) (hb : Blk w' S 5 (u8s s)) : DevIn w' p { d with safe := s } S L K :=
  ⟨by have h1 := h.box.keeps hk (by simp; exact fun e => h.ne e.symm); unfold dvCells at *; rw [hs]; exact h1, hb,
   ownsRowF_keeps h.loose hk (fun k hk' hm => ownsRowF_ne h.loose h.safe (by decide) (by simp at hm; rw [hk', hm])),
   ownsRowF_keeps h.keep hk (fun k hk' hm => ownsRowF_ne h.keep h.safe (by decide) (by simp at hm; rw [hk', hm]))⟩

/-! ## small deeds -/

set_option maxHeartbeats 1000000 in
set_option maxRecDepth 100000 in
theorem dev_Len_in (w : World) (p S : Nat) (d : Dv) (L K : Value) (h : DevIn w p d S L K) (n : Nat) (hn : d.safe.length = 256 * n) (hn2 : n ≤ 512) :
    Calls Tryz.prog 30 #[.pointer (some ⟨p, 0, none⟩)] w fun e w' => e = .returned (.int .i64 n) ∧ w = w' := by
  have c0 := h.c0
  rw [hn] at c0
  clear h hn
  go_enter Tryz.func30, Tryz.ntmps30
  go_wp2_with fail
  go_ret
  exact ⟨rfl, rfl⟩

theorem dev_Len (w : World) (p : Nat) (d : Dv) (F : List Nat) (h : DevAt w p d F) (n : Nat) (ho : DvOk n d) :
    Calls Tryz.prog 30 #[.pointer (some ⟨p, 0, none⟩)] w fun e w' => e = .returned (.int .i64 n) ∧ w = w' := by
  obtain ⟨_, S, L, K, h, _⟩ := h
  exact dev_Len_in w p S d L K h n ho.size ho.n2


set_option maxHeartbeats 1000000 in
set_option maxRecDepth 100000 in
/-- whether there is a block -/
theorem dev_is (w : World) (p : Nat) (d : Dv) (F : List Nat) (h : DevAt w p d F) (n : Nat) (ho : DvOk n d) (i : Int) :
    Calls Tryz.prog 64 #[.pointer (some ⟨p, 0, none⟩), .int .i64 i] w fun e w' => e = .returned (.bool (decide (0 ≤ i) && decide (i < n))) ∧ w = w' := by
  have hH := hid h; clear h
  cases h0 : decide (0 ≤ i) with
  | false =>
    have h0' : ¬ 0 ≤ i := of_decide_eq_false h0
    clear h0
    go_enter Tryz.func64, Tryz.ntmps64
    go_wp2_with fail
    go_ret
    exact ⟨rfl, rfl⟩
  | true =>
    have h0' : 0 ≤ i := of_decide_eq_true h0
    clear h0
    go_enter Tryz.func64, Tryz.ntmps64
    go_wp2_with fail
    refine (dev_Len w p d F hH.out n ho).mono ?_; rintro e w1 ⟨rfl, rfl⟩
    go_wp2_with fail
    go_ret
    exact ⟨rfl, rfl⟩

set_option maxHeartbeats 1000000 in
set_option maxRecDepth 100000 in
theorem dev_Image (w : World) (p : Nat) (d : Dv) (F : List Nat) (h : DevAt w p d F) :
    Calls Tryz.prog 45 #[.pointer (some ⟨p, 0, none⟩)] w fun e w' => e = .returned (.string ⟨d.safe.toArray⟩) ∧ w = w' := by
  obtain ⟨_, S, L, K, h, _⟩ := h
  have c0 := h.c0
  have hb := h.safe.bytes'
  clear h
  go_enter Tryz.func45, Tryz.ntmps45
  go_wp2_with (with_reducible refine at_op (.convert 62 9 (.tmp 8)) rfl ?_; refine Stopped.go ?_)
  refine Stopped.mk (wpList_string rfl _ _ 5 _ rfl ⟨S, 0, none⟩ _ _ d.safe rfl rfl Tryz.underlying62 Tryz.underlying5 Tryz.underlying9 hb ?_)
  go_wp2_with fail
  go_ret
  exact ⟨rfl, rfl⟩

set_option maxHeartbeats 1000000 in
set_option maxRecDepth 100000 in
theorem dev_Count (w : World) (p : Nat) (d : Dv) (F : List Nat) (h : DevAt w p d F) :
    Calls Tryz.prog 13 #[.pointer (some ⟨p, 0, none⟩)] w fun e w' => e = .returned (.agg #[.int .i64 d.rd, .int .i64 d.wr, .int .i64 d.fl]) ∧ Below w.heap.size w w' := by
  obtain ⟨_, S, L, K, h, _⟩ := h
  have hlt := h.box.lt
  have hA := below_alloc w (.cells #[.int .i64 0, .int .i64 0, .int .i64 0] 46)
  have hb := h.box.belowS hA
  have c5 : (w.alloc (.cells #[.int .i64 0, .int .i64 0, .int .i64 0] 46)).cell? ⟨p, 5, none⟩ = some (.int .i64 d.rd) := hb.at rfl
  have c6 : (w.alloc (.cells #[.int .i64 0, .int .i64 0, .int .i64 0] 46)).cell? ⟨p, 6, none⟩ = some (.int .i64 d.wr) := hb.at rfl
  have c7 : (w.alloc (.cells #[.int .i64 0, .int .i64 0, .int .i64 0] 46)).cell? ⟨p, 7, none⟩ = some (.int .i64 d.fl) := hb.at rfl
  have hN : (w.alloc (.cells #[.int .i64 0, .int .i64 0, .int .i64 0] 46)).heap[w.heap.size]? = some (.cells #[.int .i64 0, .int .i64 0, .int .i64 0] 46 (0, 0)) := heap_alloc_new w _
  have HN := hid hN; have HA := hid hA
  clear h hb hN hA hlt
  go_enter Tryz.func13, Tryz.ntmps13
  go_wp2_with (with_reducible refine at_op (.store 46 (.tmp 2) (.tmp 9)) rfl ?_; refine Stopped.go ?_)
  refine Stopped.mk (wpList_store_row_k rfl _ _ _ rfl w.heap.size #[.int .i64 d.rd, .int .i64 d.wr, .int .i64 d.fl] rfl rfl _ _ HN.out (by kernel_rfl) rfl (by simp [Value.oneCell']) ?_)
  intro w8 h8 hb8 _
  have HB := hid (HA.out.trans (hb8 _ (Nat.le_refl _)))
  have H8 := hid h8
  clear h8 hb8 c5 c6 c7
  go_wp2_with fail
  (try simp only [Exit.inBlock, Exit.then])
  exact bodyPost_ret (results_cell_row rfl _ _ w.heap.size _ _ (0, 0) _ rfl H8.out Tryz.underlying46 rfl (by kernel_rfl)) rfl ⟨rfl, HB.out⟩

theorem wr_at : ∀ (l : List (Nat × ByteArray)) (i j : Nat) (x : Nat × ByteArray) (v : Value), l[i]? = some x → (wrCells x)[j]? = some v → (l.flatMap wrCells)[i * 2 + j]? = some v
  | y :: l, 0, j, x, v, h, hv => by
    simp only [List.getElem?_cons_zero, Option.some.injEq] at h
    subst h
    rw [List.flatMap_cons, List.getElem?_append_left (by have := (List.getElem?_eq_some_iff.1 hv).1; omega)]
    simpa using hv
  | y :: l, i + 1, j, x, v, h, hv => by
    have := wr_at l i j x v (by simpa using h) hv
    rw [List.flatMap_cons, List.getElem?_append_right (by show (wrCells y).length ≤ _; simp [wrCells]; omega)]
    rw [show (i + 1) * 2 + j - (wrCells y).length = i * 2 + j by simp [wrCells]; omega]
    exact this

theorem info_int64 : (Tryz.prog.info? 3).map (fun i => (i.zero, i.size, i.bytes)) = some (some (.int .i64 0), 1, 8) := by kernel_rfl

set_option maxHeartbeats 4000000 in
set_option maxRecDepth 100000 in
theorem dev_At (w : World) (p : Nat) (d : Dv) (F : List Nat) (h : DevAt w p d F) (hlen : d.loose.length ≤ 1099511627776) :
    Calls Tryz.prog 27 #[.pointer (some ⟨p, 0, none⟩)] w fun e w' => ∃ A cap, e = .returned (.slice A d.loose.length cap) ∧ Row w' A (i64s (d.loose.map fun x => (x.1 : Int))) ∧ Below w.heap.size w w' := by
  obtain ⟨i0, hi0, hz0, hz1, hz2⟩ := info_parts info_int64
  have HI0 := hid hi0; have HZ0 := hid hz0; have HZ1 := hid hz1; have HZ2 := hid hz2
  clear hi0 hz0 hz1 hz2
  obtain ⟨_, S, L, K, h, _⟩ := h
  obtain ⟨A, cap, rfl, hr, _⟩ := ownsRowF_own h.loose
  have c1 := h.c1
  have HR := hid hr; have HL := hid hlen
  clear h hr hlen
  generalize d.loose = l at *
  go_enter Tryz.func27, Tryz.ntmps27
  go_wp2_with fail
  clear c1
  go_loopg [2, 12] l.length (fun g V j wx => ∃ i : Nat, i + g = l.length ∧ j = .int .i64 i ∧ Hid (wx.ownsRowF 0 3 1 V i (i64s ((l.take i).map fun x => (x.1 : Int))) ∧ Below w.heap.size w wx ∧ ∀ k, V.ownBlock = some k → w.heap.size ≤ k))
  case atStart => exact ⟨0, by omega, rfl, World.ownsRowF_nil _ _ _ _, Below.refl _ _, by simp [Value.ownBlock]⟩
  case round =>
    obtain ⟨i, hi, rfl, HI⟩ := hrel
    by_cases hlt : i < l.length
    · obtain ⟨⟨at_, blk⟩, hx⟩ : ∃ x, x = l[i] := ⟨_, rfl⟩
      have hxi : l[i]? = some (at_, blk) := by rw [hx]; simp [hlt]
      obtain ⟨b, off, rfl, hb, hc⟩ := row_cell HR.out (by intro e; have h := wr_at l i 0 _ (.int .i64 at_) hxi rfl; rw [e] at h; cases h)
      have c0 := hc _ _ (wr_at l i 0 _ (.int .i64 at_) hxi rfl)
      have c1 := hc _ _ (wr_at l i 1 _ (.string blk) hxi rfl)
      rw [← HI.out.2.1.cell (p := ⟨b, off + (i * 2 + 0), none⟩) hb, ← Nat.add_assoc, Nat.add_zero] at c0
      rw [← HI.out.2.1.cell (p := ⟨b, off + (i * 2 + 1), none⟩) hb, ← Nat.add_assoc] at c1
      have HX := hid hx
      clear hb hc hx hxi
      go_wp2_with (with_reducible refine at_op (.call { callee := .builtin .append, args := #[.tmp 16, .tmp 19], argTypes := #[60, 60] }) rfl ?_; refine Stopped.go ?_)
      have hA := below_alloc wr (.cells #[.int .i64 at_, .string blk] 94)
      refine Stopped.mk (wpList_append_one rfl _ _ 60 3 rfl i0 _ 1 8 Tryz.underlying60 HI0.out HZ0.out HZ1.out HZ2.out rfl (by decide) _ i _ rfl (wr.alloc (.cells #[.int .i64 at_, .string blk] 94)) #[.int .i64 at_] rfl (ownsRowF_below HI.out.1 hA) (wr.heap.size + 1) (by simp) 1 rfl rfl (by simp [Value.oneCell']) (by have := HL.out; simp only [maxLen]; omega) (by have := HL.out; omega) ?_)
      intro V' w5 hown' hkp hvb
      have HI5 := hid (show w5.ownsRowF 0 3 1 V' (i + 1) _ ∧ Below w.heap.size w w5 ∧ (∀ k, V'.ownBlock = some k → w.heap.size ≤ k) from
        ⟨hown', Keeps.below (bt HI.out.2.1 hA) hkp (fun x hx => HI.out.2.2 x (Option.mem_toList.1 hx)), fun k hk => by
          rcases hvb k hk with h | h
          · exact HI.out.2.2 k h
          · have := (bt HI.out.2.1 hA).size; omega⟩)
      clear hA hown' hkp hvb c0 c1
      have hlen := HL.out
      go_wp2_with fail
      go_roundg (l.length - (i + 1))
      case measure => omega
      case rel =>
        refine ⟨i + 1, by omega, by go_num, ?_, HI5.out.2⟩
        have h1 := HI5.out.1
        rw [List.take_succ_eq_append_getElem hlt, ← HX.out]
        simpa [i64s] using h1
    · have hin : i = l.length := by omega
      subst hin
      go_wp2_with fail
      go_ret
      obtain ⟨A', cap', rfl, hrow⟩ := ownsRowF_row HI.out.1
      exact ⟨A', cap', rfl, by simpa using hrow, HI.out.2.1⟩

end Go.Proofs.YtcklgaenedlbiaaGreat
