/-
  A log of layer 23: what its blocks are; plain laws.
  The statements of layer 23: same, log, blocks, over.
-/
import Derived.Test.YtcklgaenedlbiaaGWalRound26
import Derived.Test.YtcklgaenedlbiaaGWalRound27
import Derived.Test.YtcklgaenedlbiaaGWalRound25
import Derived.Test.YtcklgaenedlbiaaGWalRound11

namespace Go.Proofs.Ytcklgaenedlbiaa
open Go.RowKit

/-! ## blocks of a row of bytes -/

def blkAt (s : List UInt8) (i : Nat) : List UInt8 := (s.drop (256 * i)).take 256
theorem blkAt_get (s : List UInt8) (i j : Nat) : (blkAt s i)[j]? = if j < 256 then s[256 * i + j]? else none := by
  unfold blkAt
  rw [List.getElem?_take]
  split
  · rw [List.getElem?_drop]
  · rfl
theorem layN_get (s : List UInt8) (x : Nat × ByteArray) (hx : x.2.size = 256) (hs : 256 * x.1 + 256 ≤ s.length) : ∀ (k : Nat), k ≤ 4 → (layN s x k).length = s.length ∧ ∀ q, (layN s x k)[q]? = if 256 * x.1 ≤ q ∧ q < 256 * x.1 + 64 * k then x.2.data.toList[q - 256 * x.1]? else s[q]?
  | 0, _ => ⟨rfl, fun q => by rw [if_neg (by omega)]; rfl⟩
  | k + 1, hk => by
    obtain ⟨h1, h2⟩ := layN_get s x hx hs k (by omega)
    have hl : (sect x.2 k).length = 64 := sect_length _ _ hx (by omega)
    rw [layN_succ]
    unfold lay1
    refine ⟨by rw [over_length _ _ _ (by rw [hl]; omega), h1], fun q => ?_⟩
    rw [over_get _ _ _ (by rw [hl]; omega), hl, h2]
    by_cases c1 : q < 256 * x.1 + 64 * k
    · rw [if_pos c1]
      by_cases c2 : 256 * x.1 ≤ q
      · rw [if_pos ⟨c2, c1⟩, if_pos (by omega)]
      · rw [if_neg (by omega), if_neg (by omega)]
    · rw [if_neg c1]
      by_cases c2 : q < 256 * x.1 + 64 * k + 64
      · rw [if_pos c2, if_pos (by omega)]
        unfold sect
        rw [List.getElem?_take, if_pos (by omega), List.getElem?_drop]
        congr 1
        omega
      · rw [if_neg c2, if_neg (by omega), if_neg (by omega)]
theorem layN_blk (s : List UInt8) (x : Nat × ByteArray) (hx : x.2.size = 256) (hs : 256 * x.1 + 256 ≤ s.length) (i : Nat) : blkAt (layN s x 4) i = if i = x.1 then x.2.data.toList else blkAt s i := by
  have hl : x.2.data.toList.length = 256 := by simpa using hx
  apply List.ext_getElem?
  intro j
  rw [blkAt_get, (layN_get s x hx hs 4 (Nat.le_refl _)).2]
  by_cases hi : i = x.1
  · rw [if_pos hi]
    by_cases hj : j < 256
    · rw [if_pos hj, if_pos (by omega)]
      congr 1
      omega
    · rw [if_neg hj, List.getElem?_eq_none (by omega)]
  · rw [if_neg hi, blkAt_get]
    by_cases hj : j < 256
    · rw [if_pos hj, if_pos hj, if_neg (by omega)]
    · rw [if_neg hj, if_neg hj]
theorem blkAt_flat : ∀ (L : List ByteArray), (∀ b ∈ L, b.size = 256) → ∀ i (h : i < L.length), blkAt (L.flatMap fun b => b.data.toList) i = L[i].data.toList
  | [], _, i, h => by cases h
  | b :: L, hL, 0, _ => by
    have hb : b.data.toList.length = 256 := by simpa using hL b (by simp)
    unfold blkAt
    rw [List.flatMap_cons, Nat.mul_zero, List.drop_zero, List.take_left' hb]; rfl
  | b :: L, hL, i + 1, h => by
    have hb : b.data.toList.length = 256 := by simpa using hL b (by simp)
    have := blkAt_flat L (fun x hx => hL x (List.mem_cons_of_mem _ hx)) i (by simpa using h)
    rw [List.getElem_cons_succ, ← this]
    unfold blkAt
    rw [List.flatMap_cons, show 256 * (i + 1) = 256 + 256 * i by omega, ← List.drop_drop, List.drop_left' hb]
theorem flat_lenW : ∀ (L : List ByteArray), (∀ b ∈ L, b.size = 256) → (L.flatMap fun b => b.data.toList).length = 256 * L.length
  | [], _ => rfl
  | b :: L, hL => by
    have hb : b.data.toList.length = 256 := by simpa using hL b (by simp)
    rw [List.flatMap_cons, List.length_append, hb, flat_lenW L (fun x hx => hL x (List.mem_cons_of_mem _ hx)), List.length_cons]; omega

/-! ## a device's blocks -/

structure Lies (s : List UInt8) (f : Nat → ByteArray) : Prop where
  len : s.length = 256 * 64
  all : ∀ i, i < 64 → blkAt s i = (f i).data.toList
def putL (f : Nat → ByteArray) (l : List (Nat × ByteArray)) : Nat → ByteArray := l.foldl (fun f x i => if i = x.1 then x.2 else f i) f
theorem putL_snoc (f : Nat → ByteArray) (l : List (Nat × ByteArray)) (x : Nat × ByteArray) (i : Nat) : putL f (l ++ [x]) i = if i = x.1 then x.2 else putL f l i := by
  unfold putL; rw [List.foldl_append]; rfl
theorem Lies.flush : ∀ (l : List (Nat × ByteArray)) {s : List UInt8} {f : Nat → ByteArray}, Lies s f → (∀ x ∈ l, x.1 < 64 ∧ x.2.size = 256) → Lies (flushN s l) (putL f l)
  | [], _, _, h, _ => h
  | x :: l, s, f, h, hl => by
    have hx := hl x (by simp)
    have hs : 256 * x.1 + 256 ≤ s.length := by rw [h.len]; omega
    refine Lies.flush l (s := layN s x 4) (f := fun i => if i = x.1 then x.2 else f i) ⟨?_, fun i hi => ?_⟩ (fun y hy => hl y (List.mem_cons_of_mem _ hy))
    · rw [(layN_get s x hx.2 hs 4 (Nat.le_refl _)).1, h.len]
    · show blkAt (layN s x 4) i = (if i = x.1 then x.2 else f i).data.toList
      rw [layN_blk s x hx.2 hs]
      by_cases c : i = x.1
      · rw [if_pos c, if_pos c]
      · rw [if_neg c, if_neg c]; exact h.all i hi
theorem blkAt_len {s : List UInt8} (h : s.length = 256 * 64) {i : Nat} (hi : i < 64) : (blkAt s i).length = 256 := by
  unfold blkAt; rw [List.length_take, List.length_drop]; omega
/-- a device whose blocks these are: nothing is loose, it is on, it has no fuse -/
structure DL (d : Dv) (f : Nat → ByteArray) : Prop where
  lies : Lies d.safe f
  loose : d.loose = []
  fuse : d.fuse < 0
  on : d.off = false
theorem DL.size {d : Dv} {f : Nat → ByteArray} (h : DL d f) (i : Nat) (hi : i < 64) : (f i).size = 256 := by
  have h1 := blkAt_len h.lies.len hi
  rw [h.lies.all i hi] at h1
  simpa using h1
theorem DL.read {d : Dv} {f : Nat → ByteArray} (h : DL d f) (i : Nat) (hi : i < 64) : d.read i = f i := by
  unfold Dv.read
  rw [h.loose]
  show (⟨(blkAt d.safe i).toArray⟩ : ByteArray) = f i
  rw [h.lies.all i hi]
theorem texts_length (v : Wl) : v.texts.length = (g2 [] v.pend).length := by unfold Wl.texts; rw [List.length_map]
theorem stamps_ok {v : Wl} (hv : WlOk v) : ∀ x ∈ stamps v v.texts v.texts.length, x.1 < 64 ∧ x.2.size = 256 := by
  intro x hx
  obtain ⟨i, hi, rfl⟩ := List.mem_map.1 hx
  have hi := List.mem_range.1 hi
  have hf := hv.fit
  have hs := texts_length v
  refine ⟨Wl.at_lt hv _, ?_⟩
  refine (stampV_ok hv.e1 hv.e2 (by omega) (by omega) ?_).2
  rw [List.getD_eq_getElem?_getD, List.getElem?_eq_getElem hi]
  exact texts_size hv _ (List.getElem_mem _)
theorem texts_nil {v : Wl} (h : v.pend = []) : v.texts = [] := by unfold Wl.texts; rw [h]; rfl
theorem DL.sync {d : Dv} {v : Wl} {f : Nat → ByteArray} (h : DL d f) (hv : WlOk v) : DL (syncD v d) (putL f (stamps v v.texts v.texts.length)) := by
  by_cases hp : v.pend = []
  · unfold syncD
    rw [if_pos hp, texts_nil hp]; exact h
  · unfold syncD
    rw [if_neg hp]
    refine ⟨?_, rfl, h.fuse, h.on⟩
    show Lies (flushN d.safe (d.loose ++ stamps v v.texts v.texts.length)) _
    rw [h.loose, List.nil_append]
    exact h.lies.flush _ (stamps_ok hv)
theorem DL.rd {d : Dv} {f : Nat → ByteArray} (h : DL d f) (n : Nat) : DL { d with rd := n } f := ⟨h.lies, h.loose, h.fuse, h.on⟩
theorem wiped_get (f : Nat → ByteArray) : ∀ n k, putL f ((List.range n).map fun k => (2 + k, zerosB)) (2 + k) = if k < n then zerosB else f (2 + k)
  | 0, k => by rw [if_neg (by omega)]; rfl
  | n + 1, k => by
    rw [List.range_succ, List.map_append, List.map_cons, List.map_nil, putL_snoc, wiped_get f n k]
    by_cases c : k = n
    · rw [if_pos (by rw [c]), if_pos (by omega)]
    · rw [if_neg (by show ¬ 2 + k = 2 + n; omega)]
      by_cases c2 : k < n
      · rw [if_pos c2, if_pos (by omega)]
      · rw [if_neg c2, if_neg (by omega)]
theorem DL.wipe {d : Dv} {f : Nat → ByteArray} (h : DL d f) : DL (wipeD d) (putL f ((List.range 8).map fun k => (2 + k, zerosB))) := by
  refine ⟨?_, rfl, h.fuse, h.on⟩
  show Lies (flushN d.safe (d.loose ++ (List.range 8).map fun k => (2 + k, zerosB))) _
  rw [h.loose, List.nil_append]
  refine h.lies.flush _ fun x hx => ?_
  obtain ⟨i, hi, rfl⟩ := List.mem_map.1 hx
  have := List.mem_range.1 hi
  exact ⟨by show 2 + i < 64; omega, zerosB_size⟩
/-- the blocks of the log -/
def logL (f : Nat → ByteArray) : List ByteArray := (List.range 8).map fun k => f (2 + k)

/-! ## a log's blocks are what it wrote -/

theorem stamps_get {v : Wl} (h8 : v.size = 8) (ts : List ByteArray) (f : Nat → ByteArray) : ∀ n, v.used + n ≤ 8 → ∀ k, k < 8 →
    putL f (stamps v ts n) (v.at_ k) = if v.used ≤ k ∧ k < v.used + n then (stampV v.epoch (k : Nat) (ts.getD (k - v.used) ⟨#[]⟩)).1 else f (v.at_ k)
  | 0, _, k, _ => by rw [if_neg (by omega)]; rfl
  | n + 1, hn, k, hk => by
    rw [stamps_succ, putL_snoc, stamps_get h8 ts f n (by omega) k hk]
    show (if v.at_ k = v.at_ (v.used + n) then (stampV v.epoch ((v.used + n : Nat) : Int) (ts.getD n ⟨#[]⟩)).1 else _) = _
    by_cases c : k = v.used + n
    · rw [if_pos (by rw [c]), if_pos (by omega), c, show v.used + n - v.used = n by omega]
    · rw [if_neg (by unfold Wl.at_; rw [h8]; omega)]
      by_cases c2 : v.used ≤ k ∧ k < v.used + n
      · rw [if_pos c2, if_pos (by omega)]
      · rw [if_neg c2, if_neg (by omega)]
theorem readV_stampW {e q : Int} {s : ByteArray} (h : s.size ≤ 218) (h1 : 1 ≤ e) (h2 : e ≤ 2147483647) (h3 : 0 ≤ q) (h4 : q ≤ 2147483647) : readV (stampV e q s).1 = (e, q, s, 0) := by
  have hl : s.data.toList.length = s.size := by simp
  have g1 : stampV e q s = (⟨(stampB e.toNat q.toNat (frameB 224 s.data.toList)).toArray⟩, 0) := by unfold stampV; rw [if_pos ⟨h, h1, h2, h3, h4⟩]
  have g2 : (⟨(stampB e.toNat q.toNat (frameB 224 s.data.toList)).toArray⟩ : ByteArray).size = 256 := by
    show (stampB e.toNat q.toNat (frameB 224 s.data.toList)).toArray.size = 256
    rw [List.size_toArray, stampB_length _ _ _ (frameB_length (by omega))]
  rw [g1]
  unfold readV
  rw [if_pos g2]
  show (match readR (stampB e.toNat q.toNat (frameB 224 s.data.toList)) with | .ok (e, q, s) => ((e : Int), (q : Int), (⟨s.toArray⟩ : ByteArray), (0 : Int)) | .error k => (0, 0, ⟨#[]⟩, k)) = _
  rw [readR_stamp (by omega) (by omega) (by omega) (by omega)]
  simp only [Int.toNat_of_nonneg (show 0 ≤ e by omega), Int.toNat_of_nonneg h3]
/-- a block of an epoch before, or of none -/
def Elder (e : Int) (b : ByteArray) : Prop := (readV b).2.2.2 ≠ 0 ∨ (readV b).1 < e
theorem Elder.zeros (e : Int) : Elder e zerosB := .inl (by decide +kernel)
theorem Elder.readW {e : Int} {b : ByteArray} (h : Elder e b) (k : Nat) : readW e k b = ([], 0) := by
  unfold Go.Proofs.Ytcklgaenedlbiaa.readW
  rcases h with h | h
  · rw [if_pos h]
  · by_cases c : (readV b).2.2.2 ≠ 0
    · rw [if_pos c]
    · rw [if_neg c, if_neg (by omega), if_pos (.inl (by omega))]
theorem Elder.mono {e e' : Int} {b : ByteArray} (h : Elder e b) (he : e ≤ e') : Elder e' b := h.imp id (fun h => by omega)
/-- the first blocks from fr on have these groups, the others are elder ones -/
structure Has (f : Nat → ByteArray) (fr : Nat) (e : Int) (gs : List (List Msg3)) : Prop where
  mine : ∀ k (h : k < gs.length), readV (f (2 + (fr + k) % 8)) = (e, (k : Int), bytesG gs[k], 0)
  rest : ∀ k, gs.length ≤ k → k < 8 → Elder e (f (2 + (fr + k) % 8))
  len : gs.length ≤ 8
  good : ∀ g ∈ gs, g ≠ [] ∧ (∀ x ∈ g, isB x = true) ∧ 1 + sw g ≤ 218
theorem Has.nil {f : Nat → ByteArray} {e : Int} (h : ∀ j, j < 8 → Elder e (f (2 + j))) (fr : Nat) : Has f fr e [] :=
  { mine := fun k hk => absurd hk (Nat.not_lt_zero k), rest := fun k _ _ => h _ (Nat.mod_lt _ (by decide)), len := Nat.zero_le _, good := fun g hg => by cases hg }
theorem Has.next {f : Nat → ByteArray} {fr : Nat} {e : Int} {gs : List (List Msg3)} (h : Has f fr e gs) : ∀ j, j < 8 → Elder (e + 1) (f (2 + j)) := by
  intro j hj
  obtain ⟨k, hk, hkj⟩ : ∃ k, k < 8 ∧ (fr + k) % 8 = j := ⟨(j + 8 - fr % 8) % 8, Nat.mod_lt _ (by decide), by omega⟩
  rw [← hkj]
  by_cases c : k < gs.length
  · refine .inr ?_
    rw [h.mine k c]
    show e < e + 1
    omega
  · exact (h.rest k (by omega) hk).mono (by omega)
theorem Has.readW {f : Nat → ByteArray} {fr : Nat} {e : Int} {gs : List (List Msg3)} (h : Has f fr e gs) (k : Nat) (hk : k < 8) : readW e k (f (2 + (fr + k) % 8)) = (gs.getD k [], 0) := by
  by_cases c : k < gs.length
  · have g := h.good gs[k] (List.getElem_mem _)
    rw [List.getD_eq_getElem?_getD, List.getElem?_eq_getElem c]
    unfold Go.Proofs.Ytcklgaenedlbiaa.readW
    rw [h.mine k c, if_neg (by simp), if_neg (by simp), if_neg (by simp)]
    show ((parseR (bytesG gs[k])).getD [], 0) = _
    rw [parseR_yes _ g.1 g.2.1 g.2.2]
  · rw [(h.rest k (by omega) hk).readW, List.getD_eq_getElem?_getD, List.getElem?_eq_none (by omega)]; rfl
theorem Has.scanN {f : Nat → ByteArray} {fr : Nat} {e : Int} {gs : List (List Msg3)} (h : Has f fr e gs) {rd : Nat → List Msg3 × Int} (hrd : ∀ k, k < 8 → rd k = Go.Proofs.Ytcklgaenedlbiaa.readW e k (f (2 + (fr + k) % 8))) :
    ∀ n, n ≤ 8 → Go.Proofs.Ytcklgaenedlbiaa.scanN rd n = (min n gs.length, (gs.take n).flatten, false)
  | 0, _ => by simp [Go.Proofs.Ytcklgaenedlbiaa.scanN]
  | n + 1, hn => by
    have ih := h.scanN hrd n (by omega)
    have hr : rd n = (gs.getD n [], 0) := by rw [hrd n (by omega), h.readW n (by omega)]
    simp only [Go.Proofs.Ytcklgaenedlbiaa.scanN, ih, hr]
    by_cases c : n < gs.length
    · have g := h.good gs[n] (List.getElem_mem _)
      have hd : gs.getD n [] = gs[n] := by rw [List.getD_eq_getElem?_getD, List.getElem?_eq_getElem c]; rfl
      rw [hd, if_pos ⟨by omega, g.1⟩, if_pos ⟨by omega, g.1⟩, List.take_succ_eq_append_getElem c, List.flatten_append]
      simp only [List.flatten_cons, List.flatten_nil, List.append_nil, Prod.mk.injEq, true_and]
      exact ⟨by omega, by simp⟩
    · have hd : gs.getD n [] = [] := by rw [List.getD_eq_getElem?_getD, List.getElem?_eq_none (by omega)]; rfl
      rw [hd, if_neg (by simp), if_neg (by simp), List.take_of_length_le (show gs.length ≤ n by omega), List.take_of_length_le (show gs.length ≤ n + 1 by omega)]
      simp only [Prod.mk.injEq, true_and]
      exact ⟨by omega, by simp⟩
theorem Has.scan {d : Dv} {f : Nat → ByteArray} {fr : Nat} {e : Int} {gs : List (List Msg3)} (h : Has f fr e gs) (hd : DL d f) : scanV (rdOf d (Wl.new e fr)) = (gs.flatten, gs.length, 0) := by
  have h1 := h.scanN (rd := rdOf d (Wl.new e fr)) (fun k hk => by
    unfold rdOf
    rw [hd.read _ (by unfold Wl.at_ Wl.new; show 2 + (fr + k) % 8 < 64; omega)]; rfl) 8 (Nat.le_refl _)
  have hl := h.len
  unfold scanV
  rw [h1, if_neg (by simp)]
  simp only [Prod.mk.injEq, and_true]
  exact ⟨by rw [List.take_of_length_le hl], by omega⟩
theorem scanN_later {rd : Nat → List Msg3 × Int} (h : (rd 0).2 = 5) : ∀ n, (scanN rd (n + 1)).2.2 = true
  | 0 => by simp [scanN, h]
  | n + 1 => by
    have ih := scanN_later h n
    rw [scanN]
    simp only [ih, Bool.true_or]
/-- for an epoch before, they are a later one's -/
theorem Has.before {d : Dv} {f : Nat → ByteArray} {fr : Nat} {e : Int} {gs : List (List Msg3)} (h : Has f fr e gs) (hd : DL d f) (h0 : 0 < gs.length) : scanV (rdOf d (Wl.new (e - 1) fr)) = ([], 0, 5) := by
  have h1 : (rdOf d (Wl.new (e - 1) fr) 0).2 = 5 := by
    unfold rdOf
    rw [hd.read _ (by unfold Wl.at_ Wl.new; show 2 + (fr + 0) % 8 < 64; omega)]
    show (Go.Proofs.Ytcklgaenedlbiaa.readW (e - 1) 0 (f (2 + (fr + 0) % 8))).2 = 5
    unfold Go.Proofs.Ytcklgaenedlbiaa.readW
    rw [h.mine 0 h0, if_neg (by simp), if_pos (by show e - 1 < e; omega)]
  unfold scanV
  rw [scanN_later h1 7, if_pos rfl]
theorem Has.sync {f : Nat → ByteArray} {fr : Nat} {e : Int} {gs : List (List Msg3)} {v : Wl} (h : Has f fr e gs) (hv : WlOk v) (h1 : v.from_ = fr) (h2 : v.epoch = e) (h3 : v.used = gs.length) :
    Has (putL f (stamps v v.texts v.texts.length)) fr e (gs ++ g2 [] v.pend) := by
  have hs := hv.size
  have hf := hv.fit
  have hl := texts_length v
  have hat : ∀ k, v.at_ k = 2 + (fr + k) % 8 := fun k => by unfold Wl.at_; rw [hs, h1]
  have hg : ∀ g ∈ g2 [] v.pend, g ≠ [] ∧ (∀ x ∈ g, isB x = true) ∧ 1 + sw g ≤ 218 := fun g hg => by
    have a := g2_each v.pend [] (fun x hx => isB_wt (hv.all x hx)) (by simp [sw]) g hg
    exact ⟨a.1, fun x hx => hv.all x ((g2_mem hg).1 x hx), a.2⟩
  have get := fun k hk => stamps_get hs v.texts f v.texts.length (by omega) k hk
  refine ⟨fun k hk => ?_, fun k hk hk8 => ?_, by rw [List.length_append]; omega, fun g hg' => ?_⟩
  · rw [List.length_append] at hk
    rw [← hat, get k (by omega)]
    by_cases c : k < gs.length
    · rw [if_neg (by omega), List.getElem_append_left c, hat]
      exact h.mine k c
    · rw [if_pos (by omega), List.getElem_append_right (by omega), h2]
      have ht : v.texts.getD (k - v.used) ⟨#[]⟩ = bytesG (g2 [] v.pend)[k - gs.length] := by
        rw [List.getD_eq_getElem?_getD, List.getElem?_eq_getElem (by omega)]
        simp only [Wl.texts, List.getElem_map, Option.getD_some, h3]
      rw [ht]
      have hb : (bytesG (g2 [] v.pend)[k - gs.length]).size ≤ 218 := texts_size hv _ (by unfold Wl.texts; exact List.mem_map_of_mem (List.getElem_mem _))
      exact readV_stampW hb (by rw [← h2]; exact hv.e1) (by rw [← h2]; exact hv.e2) (by omega) (by omega)
  · rw [List.length_append] at hk
    rw [← hat, get k hk8, if_neg (by omega), hat]
    exact h.rest k (by omega) hk8
  · rcases List.mem_append.1 hg' with h4 | h4
    · exact h.good g h4
    · exact hg g h4
end Go.Proofs.Ytcklgaenedlbiaa

namespace Go.Proofs.Ytcklgaenedlbiaa
open Go.RowKit Go.Sort

section
variable {P : Program} {w : World}
theorem append_whereR (t ty e : TypeId) (i : TypeInfo) (z : Value) (size bytes : Nat) (ht : P.underlying t = some (.slice e)) (hi : P.info? e = some i) (hz : i.zero = some z)
    (hsize : i.size = size) (hby : i.bytes = bytes) (hzs : z.cells.size = size) (hsz : 0 < size)
    (v : Value) (n : Nat) (xs : List Value) (hown : w.ownsRow 0 e size v n xs)
    (a : Addr) (m c : Nat) (news : List Value) (hl : news.length = m * size) (hnews : ∀ j u, news[j]? = some u → w.cell? (a.add j) = some u) (h1 : ∀ u ∈ news, u.oneCell' = true)
    (h63 : n + m ≤ maxLen) (hbytes : (n + m) * bytes ≤ 140737488355328) :
    ∃ v' w', (Builtin.append_ #[t, t] ty #[v, .slice (some a) m c]).run P w = .ok v' w' ∧ w'.ownsRow 0 e size v' (n + m) (xs ++ news) ∧ w.grownBy w' v.ownBlock ∧ (∀ k, v'.ownBlock = some k → v.ownBlock = some k ∨ w.heap.size ≤ k) := by
  obtain ⟨v1, w1, r1, r2, r3, _⟩ := run_append_own (P := P) w 0 t ty e i z size bytes ht hi hz hsize hby hzs hsz v n xs hown a m c news hl hnews h1 h63 hbytes (Nat.zero_le _)
  obtain ⟨v2, w2, s1, _, _, s4⟩ := append_where (P := P) (w := w) t ty e i z size bytes ht hi hz hsize hby hzs hsz v n xs (World.ownsRowF_of hown) a m c news hl hnews h1 h63 hbytes
  rw [r1] at s1
  injection s1 with e1 e2
  subst e1
  exact ⟨v1, w1, r1, r2, r3, s4⟩
theorem ownsRow_below {e : TypeId} {size n : Nat} {v : Value} {xs : List Value} {w w' : World} (h : w.ownsRow 0 e size v n xs) (hb : Below w.heap.size w w') : w'.ownsRow 0 e size v n xs := by
  refine ⟨h.1, ?_⟩
  rcases h.2 with h | ⟨g, cap, cur, hv, h0, hg, r⟩
  · exact .inl h
  · exact .inr ⟨g, cap, cur, hv, h0, by rw [hb.block g (Array.getElem?_eq_some_iff.1 hg).1]; exact hg, r⟩
theorem ownsRow_new (w : World) (e : TypeId) (size : Nat) : (w.alloc (.cells #[] e)).ownsRow 0 e size (.slice (some ⟨w.heap.size, 0, none⟩) 0 0) 0 [] :=
  ⟨by simp, .inr ⟨w.heap.size, 0, #[], rfl, Nat.zero_le _, heap_alloc_new w _, Nat.le_refl _, Nat.zero_le _, by simp, by simp⟩⟩
/-- a row that is wholly known, of one-cell values -/
theorem ownsRow_blk {e : TypeId} {n : Nat} {v : Value} {xs : List Value} (h : w.ownsRow 0 e 1 v n xs) (hn : 0 < n) : ∃ g cap rest, v = .slice (some ⟨g, 0, none⟩) n cap ∧ Blk w g e (xs ++ rest) ∧ n ≤ cap := by
  rcases h.2 with ⟨_, h0⟩ | ⟨g, cap, cur, hv, _, hg, h1, _, _, h2⟩
  · omega
  · refine ⟨g, cap, cur.toList.drop n, hv, ⟨(0, 0), ?_, .inl rfl⟩, h1⟩
    rw [Nat.mul_one] at h2
    rw [← h2, List.take_append_drop]
    simpa using hg
variable {ops : Array Oper} {rest : List Oper} {o : Oper} {a : Act} {Q : Exit → Act → World → Prop}
theorem wpList_append_oneR (hgd : o.guard = none) (s x : Operand) (t e : TypeId) (ho : o.op = .call { callee := .builtin .append, args := #[s, x], argTypes := #[t, t] })
    (i : TypeInfo) (z : Value) (size bytes : Nat) (ht : P.underlying t = some (.slice e)) (hi : P.info? e = some i) (hz : i.zero = some z)
    (hsize : i.size = size) (hby : i.bytes = bytes) (hzs : z.cells.size = size) (hsz : 0 < size)
    (v : Value) (n : Nat) (xs : List Value) (hs : a.eval s = v) (w1 : World) (cs : Array Value) (hw : w = w1.alloc (.cells cs e)) (hown : w1.ownsRow 0 e size v n xs)
    (g : Nat) (hg : w1.heap.size = g) (c : Nat) (hx : a.eval x = .slice (some ⟨g, 0, none⟩) 1 c) (hl : cs.size = size) (h1 : cs.all (·.oneCell') = true)
    (h63 : n + 1 ≤ maxLen) (hbytes : (n + 1) * bytes ≤ 140737488355328)
    (h : ∀ v' w', w'.ownsRow 0 e size v' (n + 1) (xs ++ cs.toList) → Keeps v.ownBlock.toList w1 w' → (∀ k, v'.ownBlock = some k → v.ownBlock = some k ∨ w1.heap.size ≤ k) → wpList P ops Q rest (a.put o.dst v') w') : wpList P ops Q (o :: rest) a w := by
  subst hw
  subst hg
  have hA := below_alloc w1 (.cells cs e)
  have hN := Blk.new w1 cs e
  refine wpList_plain hgd fun K hK => ?_
  obtain ⟨v', w', hr, h2, h3, h4⟩ := append_whereR (P := P) (w := w1.alloc (.cells cs e)) t o.type e i z size bytes ht hi hz hsize hby hzs hsz v n xs (ownsRow_below hown hA) ⟨w1.heap.size, 0, none⟩ 1 c cs.toList (by rw [Array.length_toList, hl, Nat.one_mul])
    (fun j u hj => by rw [add_at]; exact hN.at hj) (fun u hu => by rw [Array.all_eq_true_iff_forall_mem] at h1; exact h1 u (Array.mem_toList_iff.1 hu)) h63 hbytes
  unfold Oper.wp execOp
  simp only [ho, resolve, invoke, builtin, Sem.run_bind, Sem.run_pure, Result.andThen_ok, List.map_toArray, List.map_cons, List.map_nil, hs, hx, hr]
  refine hK _ _ (h v' w' h2 ((Keeps.of hA).trans (keeps_grown h3)) (fun k hk => ?_))
  rcases h4 k hk with h | h
  · exact .inl h
  · exact .inr (Nat.le_trans hA.size h)
end
theorem strs_get (l : List ByteArray) (k : Nat) (h : k < l.length) : (strs l)[k]? = some (.string l[k]) := by simp [strs, h]
theorem strs_ne {l : List ByteArray} {k : Nat} (h : k < l.length) : strs l ≠ [] := by
  intro e
  have := strs_get l k h
  rw [e] at this; cases this

theorem logL_snoc (f : Nat → ByteArray) (k : Nat) : (List.range (k + 1)).map (fun k => f (2 + k)) = (List.range k).map (fun k => f (2 + k)) ++ [f (2 + k)] := by rw [List.range_succ, List.map_append]; rfl

end Go.Proofs.Ytcklgaenedlbiaa
