/-
  A log of layer 23: what its blocks are; plain laws.
  A device with a log over it, as a statement goes on: what is kept from deed to deed.
-/
import Derived.Test.YtcklgaenedlbiaaGreatGWalExact26
import Derived.Test.YtcklgaenedlbiaaGreatGWalExact27

namespace Go.Proofs.YtcklgaenedlbiaaGreat
open Go.RowKit

/-! ## blocks of a row of bytes -/

def blkAt (s : List UInt8) (i : Nat) : List UInt8 := (s.drop (256 * i)).take 256
theorem blkAt_get (s : List UInt8) (i j : Nat) : (blkAt s i)[j]? = if j < 256 then s[256 * i + j]? else none := by
  unfold blkAt
  rw [List.getElem?_take]
  split
  · rw [List.getElem?_drop]
  · rfl
theorem layN_get (s : List UInt8) (x : Nat × ByteArray) (hx : x.2.size = 256) (hs : 256 * x.1 + 256 ≤ s.length) : ∀ (k : Nat), k ≤ 4 → (layN s x k).length = s.length ∧ ∀ q, (layN s x k)[q]? = if 256 * x.1 ≤ q ∧ q < 256 * x.1 + 64 * k then x.2.data.toList[q - 256 * x.1]? else s[q]?
  | 0, _ => ⟨rfl, fun q => by rw [if_neg (by omega)]; rfl⟩
  | k + 1, hk => by
    obtain ⟨h1, h2⟩ := layN_get s x hx hs k (by omega)
    have hl : (sect x.2 k).length = 64 := sect_length _ _ hx (by omega)
    rw [layN_succ]
    unfold lay1
    refine ⟨by rw [over_length _ _ _ (by rw [hl]; omega), h1], fun q => ?_⟩
    rw [over_get _ _ _ (by rw [hl]; omega), hl, h2]
    by_cases c1 : q < 256 * x.1 + 64 * k
    · rw [if_pos c1]
      by_cases c2 : 256 * x.1 ≤ q
      · rw [if_pos ⟨c2, c1⟩, if_pos (by omega)]
      · rw [if_neg (by omega), if_neg (by omega)]
    · rw [if_neg c1]
      by_cases c2 : q < 256 * x.1 + 64 * k + 64
      · rw [if_pos c2, if_pos (by omega)]
        unfold sect
        rw [List.getElem?_take, if_pos (by omega), List.getElem?_drop]
        congr 1
        omega
      · rw [if_neg c2, if_neg (by omega), if_neg (by omega)]
theorem layN_blk (s : List UInt8) (x : Nat × ByteArray) (hx : x.2.size = 256) (hs : 256 * x.1 + 256 ≤ s.length) (i : Nat) : blkAt (layN s x 4) i = if i = x.1 then x.2.data.toList else blkAt s i := by
  have hl : x.2.data.toList.length = 256 := by simpa using hx
  apply List.ext_getElem?
  intro j
  rw [blkAt_get, (layN_get s x hx hs 4 (Nat.le_refl _)).2]
  by_cases hi : i = x.1
  · rw [if_pos hi]
    by_cases hj : j < 256
    · rw [if_pos hj, if_pos (by omega)]
      congr 1
      omega
    · rw [if_neg hj, List.getElem?_eq_none (by omega)]
  · rw [if_neg hi, blkAt_get]
    by_cases hj : j < 256
    · rw [if_pos hj, if_pos hj, if_neg (by omega)]
    · rw [if_neg hj, if_neg hj]
theorem blkAt_flat : ∀ (L : List ByteArray), (∀ b ∈ L, b.size = 256) → ∀ i (h : i < L.length), blkAt (L.flatMap fun b => b.data.toList) i = L[i].data.toList
  | [], _, i, h => by cases h
  | b :: L, hL, 0, _ => by
    have hb : b.data.toList.length = 256 := by simpa using hL b (by simp)
    unfold blkAt
    rw [List.flatMap_cons, Nat.mul_zero, List.drop_zero, List.take_left' hb]; rfl
  | b :: L, hL, i + 1, h => by
    have hb : b.data.toList.length = 256 := by simpa using hL b (by simp)
    have := blkAt_flat L (fun x hx => hL x (List.mem_cons_of_mem _ hx)) i (by simpa using h)
    rw [List.getElem_cons_succ, ← this]
    unfold blkAt
    rw [List.flatMap_cons, show 256 * (i + 1) = 256 + 256 * i by omega, ← List.drop_drop, List.drop_left' hb]
theorem flat_lenW : ∀ (L : List ByteArray), (∀ b ∈ L, b.size = 256) → (L.flatMap fun b => b.data.toList).length = 256 * L.length
  | [], _ => rfl
  | b :: L, hL => by
    have hb : b.data.toList.length = 256 := by simpa using hL b (by simp)
    rw [List.flatMap_cons, List.length_append, hb, flat_lenW L (fun x hx => hL x (List.mem_cons_of_mem _ hx)), List.length_cons]; omega

/-! ## a device's blocks -/

structure Lies (s : List UInt8) (f : Nat → ByteArray) : Prop where
  len : s.length = 256 * 64
  all : ∀ i, i < 64 → blkAt s i = (f i).data.toList
def putL (f : Nat → ByteArray) (l : List (Nat × ByteArray)) : Nat → ByteArray := l.foldl (fun f x i => if i = x.1 then x.2 else f i) f
theorem putL_snoc (f : Nat → ByteArray) (l : List (Nat × ByteArray)) (x : Nat × ByteArray) (i : Nat) : putL f (l ++ [x]) i = if i = x.1 then x.2 else putL f l i := by
  unfold putL; rw [List.foldl_append]; rfl
theorem Lies.flush : ∀ (l : List (Nat × ByteArray)) {s : List UInt8} {f : Nat → ByteArray}, Lies s f → (∀ x ∈ l, x.1 < 64 ∧ x.2.size = 256) → Lies (flushN s l) (putL f l)
  | [], _, _, h, _ => h
  | x :: l, s, f, h, hl => by
    have hx := hl x (by simp)
    have hs : 256 * x.1 + 256 ≤ s.length := by rw [h.len]; omega
    refine Lies.flush l (s := layN s x 4) (f := fun i => if i = x.1 then x.2 else f i) ⟨?_, fun i hi => ?_⟩ (fun y hy => hl y (List.mem_cons_of_mem _ hy))
    · rw [(layN_get s x hx.2 hs 4 (Nat.le_refl _)).1, h.len]
    · show blkAt (layN s x 4) i = (if i = x.1 then x.2 else f i).data.toList
      rw [layN_blk s x hx.2 hs]
      by_cases c : i = x.1
      · rw [if_pos c, if_pos c]
      · rw [if_neg c, if_neg c]; exact h.all i hi
theorem blkAt_len {s : List UInt8} (h : s.length = 256 * 64) {i : Nat} (hi : i < 64) : (blkAt s i).length = 256 := by
  unfold blkAt; rw [List.length_take, List.length_drop]; omega
/-- a device whose blocks these are: nothing is loose, it is on, it has no fuse -/
structure DL (d : Dv) (f : Nat → ByteArray) : Prop where
  lies : Lies d.safe f
  loose : d.loose = []
  fuse : d.fuse < 0
  on : d.off = false
theorem DL.size {d : Dv} {f : Nat → ByteArray} (h : DL d f) (i : Nat) (hi : i < 64) : (f i).size = 256 := by
  have h1 := blkAt_len h.lies.len hi
  rw [h.lies.all i hi] at h1
  simpa using h1
theorem DL.read {d : Dv} {f : Nat → ByteArray} (h : DL d f) (i : Nat) (hi : i < 64) : d.read i = f i := by
  unfold Dv.read
  rw [h.loose]
  show (⟨(blkAt d.safe i).toArray⟩ : ByteArray) = f i
  rw [h.lies.all i hi]
theorem texts_length (v : Wl) : v.texts.length = (g2 [] v.pend).length := by unfold Wl.texts; rw [List.length_map]
theorem stamps_ok {v : Wl} (hv : WlOk v) : ∀ x ∈ stamps v v.texts v.texts.length, x.1 < 64 ∧ x.2.size = 256 := by
  intro x hx
  obtain ⟨i, hi, rfl⟩ := List.mem_map.1 hx
  have hi := List.mem_range.1 hi
  have hf := hv.fit
  have hs := texts_length v
  refine ⟨Wl.at_lt hv _, ?_⟩
  refine (stampV_ok hv.e1 hv.e2 (by omega) (by omega) ?_).2
  rw [List.getD_eq_getElem?_getD, List.getElem?_eq_getElem hi]
  exact texts_size hv _ (List.getElem_mem _)
theorem texts_nil {v : Wl} (h : v.pend = []) : v.texts = [] := by unfold Wl.texts; rw [h]; rfl
theorem DL.sync {d : Dv} {v : Wl} {f : Nat → ByteArray} (h : DL d f) (hv : WlOk v) : DL (syncD v d) (putL f (stamps v v.texts v.texts.length)) := by
  by_cases hp : v.pend = []
  · unfold syncD
    rw [if_pos hp, texts_nil hp]; exact h
  · unfold syncD
    rw [if_neg hp]
    refine ⟨?_, rfl, h.fuse, h.on⟩
    show Lies (flushN d.safe (d.loose ++ stamps v v.texts v.texts.length)) _
    rw [h.loose, List.nil_append]
    exact h.lies.flush _ (stamps_ok hv)
theorem DL.rd {d : Dv} {f : Nat → ByteArray} (h : DL d f) (n : Nat) : DL { d with rd := n } f := ⟨h.lies, h.loose, h.fuse, h.on⟩
theorem wiped_get (f : Nat → ByteArray) : ∀ n k, putL f ((List.range n).map fun k => (2 + k, zerosB)) (2 + k) = if k < n then zerosB else f (2 + k)
  | 0, k => by rw [if_neg (by omega)]; rfl
  | n + 1, k => by
    rw [List.range_succ, List.map_append, List.map_cons, List.map_nil, putL_snoc, wiped_get f n k]
    by_cases c : k = n
    · rw [if_pos (by rw [c]), if_pos (by omega)]
    · rw [if_neg (by show ¬ 2 + k = 2 + n; omega)]
      by_cases c2 : k < n
      · rw [if_pos c2, if_pos (by omega)]
      · rw [if_neg c2, if_neg (by omega)]
theorem DL.wipe {d : Dv} {f : Nat → ByteArray} (h : DL d f) : DL (wipeD d) (putL f ((List.range 8).map fun k => (2 + k, zerosB))) := by
  refine ⟨?_, rfl, h.fuse, h.on⟩
  show Lies (flushN d.safe (d.loose ++ (List.range 8).map fun k => (2 + k, zerosB))) _
  rw [h.loose, List.nil_append]
  refine h.lies.flush _ fun x hx => ?_
  obtain ⟨i, hi, rfl⟩ := List.mem_map.1 hx
  have := List.mem_range.1 hi
  exact ⟨by show 2 + i < 64; omega, zerosB_size⟩
/-- the blocks of the log -/
def logL (f : Nat → ByteArray) : List ByteArray := (List.range 8).map fun k => f (2 + k)

/-! ## a log's blocks are what it wrote -/

theorem stamps_get {v : Wl} (h8 : v.size = 8) (ts : List ByteArray) (f : Nat → ByteArray) : ∀ n, v.used + n ≤ 8 → ∀ k, k < 8 →
    putL f (stamps v ts n) (v.at_ k) = if v.used ≤ k ∧ k < v.used + n then (stampV v.epoch (k : Nat) (ts.getD (k - v.used) ⟨#[]⟩)).1 else f (v.at_ k)
  | 0, _, k, _ => by rw [if_neg (by omega)]; rfl
  | n + 1, hn, k, hk => by
    rw [stamps_succ, putL_snoc, stamps_get h8 ts f n (by omega) k hk]
    show (if v.at_ k = v.at_ (v.used + n) then (stampV v.epoch ((v.used + n : Nat) : Int) (ts.getD n ⟨#[]⟩)).1 else _) = _
    by_cases c : k = v.used + n
    · rw [if_pos (by rw [c]), if_pos (by omega), c, show v.used + n - v.used = n by omega]
    · rw [if_neg (by unfold Wl.at_; rw [h8]; omega)]
      by_cases c2 : v.used ≤ k ∧ k < v.used + n
      · rw [if_pos c2, if_pos (by omega)]
      · rw [if_neg c2, if_neg (by omega)]
theorem readV_stampW {e q : Int} {s : ByteArray} (h : s.size ≤ 218) (h1 : 1 ≤ e) (h2 : e ≤ 2147483647) (h3 : 0 ≤ q) (h4 : q ≤ 2147483647) : readV (stampV e q s).1 = (e, q, s, 0) := by
  have hl : s.data.toList.length = s.size := by simp
  have g1 : stampV e q s = (⟨(stampB e.toNat q.toNat (frameB 224 s.data.toList)).toArray⟩, 0) := by unfold stampV; rw [if_pos ⟨h, h1, h2, h3, h4⟩]
  have g2 : (⟨(stampB e.toNat q.toNat (frameB 224 s.data.toList)).toArray⟩ : ByteArray).size = 256 := by
    show (stampB e.toNat q.toNat (frameB 224 s.data.toList)).toArray.size = 256
    rw [List.size_toArray, stampB_length _ _ _ (frameB_length (by omega))]
  rw [g1]
  unfold readV
  rw [if_pos g2]
  show (match readR (stampB e.toNat q.toNat (frameB 224 s.data.toList)) with | .ok (e, q, s) => ((e : Int), (q : Int), (⟨s.toArray⟩ : ByteArray), (0 : Int)) | .error k => (0, 0, ⟨#[]⟩, k)) = _
  rw [readR_stamp (by omega) (by omega) (by omega) (by omega)]
  simp only [Int.toNat_of_nonneg (show 0 ≤ e by omega), Int.toNat_of_nonneg h3]
/-- a block of an epoch before, or of none -/
def Elder (e : Int) (b : ByteArray) : Prop := (readV b).2.2.2 ≠ 0 ∨ (readV b).1 < e
theorem Elder.zeros (e : Int) : Elder e zerosB := .inl (by decide +kernel)
theorem Elder.readW {e : Int} {b : ByteArray} (h : Elder e b) (k : Nat) : readW e k b = ([], 0) := by
  unfold Go.Proofs.YtcklgaenedlbiaaGreat.readW
  rcases h with h | h
  · rw [if_pos h]
  · by_cases c : (readV b).2.2.2 ≠ 0
    · rw [if_pos c]
    · rw [if_neg c, if_neg (by omega), if_pos (.inl (by omega))]
theorem Elder.mono {e e' : Int} {b : ByteArray} (h : Elder e b) (he : e ≤ e') : Elder e' b := h.imp id (fun h => by omega)
/-- the first blocks from fr on have these groups, the others are elder ones -/
structure Has (f : Nat → ByteArray) (fr : Nat) (e : Int) (gs : List (List Msg3)) : Prop where
  mine : ∀ k (h : k < gs.length), readV (f (2 + (fr + k) % 8)) = (e, (k : Int), bytesG gs[k], 0)
  rest : ∀ k, gs.length ≤ k → k < 8 → Elder e (f (2 + (fr + k) % 8))
  len : gs.length ≤ 8
  good : ∀ g ∈ gs, g ≠ [] ∧ (∀ x ∈ g, isB x = true) ∧ 1 + sw g ≤ 218
theorem Has.nil {f : Nat → ByteArray} {e : Int} (h : ∀ j, j < 8 → Elder e (f (2 + j))) (fr : Nat) : Has f fr e [] :=
  { mine := fun k hk => absurd hk (Nat.not_lt_zero k), rest := fun k _ _ => h _ (Nat.mod_lt _ (by decide)), len := Nat.zero_le _, good := fun g hg => by cases hg }
theorem Has.next {f : Nat → ByteArray} {fr : Nat} {e : Int} {gs : List (List Msg3)} (h : Has f fr e gs) : ∀ j, j < 8 → Elder (e + 1) (f (2 + j)) := by
  intro j hj
  obtain ⟨k, hk, hkj⟩ : ∃ k, k < 8 ∧ (fr + k) % 8 = j := ⟨(j + 8 - fr % 8) % 8, Nat.mod_lt _ (by decide), by omega⟩
  rw [← hkj]
  by_cases c : k < gs.length
  · refine .inr ?_
    rw [h.mine k c]
    show e < e + 1
    omega
  · exact (h.rest k (by omega) hk).mono (by omega)
theorem Has.readW {f : Nat → ByteArray} {fr : Nat} {e : Int} {gs : List (List Msg3)} (h : Has f fr e gs) (k : Nat) (hk : k < 8) : readW e k (f (2 + (fr + k) % 8)) = (gs.getD k [], 0) := by
  by_cases c : k < gs.length
  · have g := h.good gs[k] (List.getElem_mem _)
    rw [List.getD_eq_getElem?_getD, List.getElem?_eq_getElem c]
    unfold Go.Proofs.YtcklgaenedlbiaaGreat.readW
    rw [h.mine k c, if_neg (by simp), if_neg (by simp), if_neg (by simp)]
    show ((parseR (bytesG gs[k])).getD [], 0) = _
    rw [parseR_yes _ g.1 g.2.1 g.2.2]
  · rw [(h.rest k (by omega) hk).readW, List.getD_eq_getElem?_getD, List.getElem?_eq_none (by omega)]; rfl
theorem Has.scanN {f : Nat → ByteArray} {fr : Nat} {e : Int} {gs : List (List Msg3)} (h : Has f fr e gs) {rd : Nat → List Msg3 × Int} (hrd : ∀ k, k < 8 → rd k = Go.Proofs.YtcklgaenedlbiaaGreat.readW e k (f (2 + (fr + k) % 8))) :
    ∀ n, n ≤ 8 → Go.Proofs.YtcklgaenedlbiaaGreat.scanN rd n = (min n gs.length, (gs.take n).flatten, false)
  | 0, _ => by simp [Go.Proofs.YtcklgaenedlbiaaGreat.scanN]
  | n + 1, hn => by
    have ih := h.scanN hrd n (by omega)
    have hr : rd n = (gs.getD n [], 0) := by rw [hrd n (by omega), h.readW n (by omega)]
    simp only [Go.Proofs.YtcklgaenedlbiaaGreat.scanN, ih, hr]
    by_cases c : n < gs.length
    · have g := h.good gs[n] (List.getElem_mem _)
      have hd : gs.getD n [] = gs[n] := by rw [List.getD_eq_getElem?_getD, List.getElem?_eq_getElem c]; rfl
      rw [hd, if_pos ⟨by omega, g.1⟩, if_pos ⟨by omega, g.1⟩, List.take_succ_eq_append_getElem c, List.flatten_append]
      simp only [List.flatten_cons, List.flatten_nil, List.append_nil, Prod.mk.injEq, true_and]
      exact ⟨by omega, by simp⟩
    · have hd : gs.getD n [] = [] := by rw [List.getD_eq_getElem?_getD, List.getElem?_eq_none (by omega)]; rfl
      rw [hd, if_neg (by simp), if_neg (by simp), List.take_of_length_le (show gs.length ≤ n by omega), List.take_of_length_le (show gs.length ≤ n + 1 by omega)]
      simp only [Prod.mk.injEq, true_and]
      exact ⟨by omega, by simp⟩
theorem Has.scan {d : Dv} {f : Nat → ByteArray} {fr : Nat} {e : Int} {gs : List (List Msg3)} (h : Has f fr e gs) (hd : DL d f) : scanV (rdOf d (Wl.new e fr)) = (gs.flatten, gs.length, 0) := by
  have h1 := h.scanN (rd := rdOf d (Wl.new e fr)) (fun k hk => by
    unfold rdOf
    rw [hd.read _ (by unfold Wl.at_ Wl.new; show 2 + (fr + k) % 8 < 64; omega)]; rfl) 8 (Nat.le_refl _)
  have hl := h.len
  unfold scanV
  rw [h1, if_neg (by simp)]
  simp only [Prod.mk.injEq, and_true]
  exact ⟨by rw [List.take_of_length_le hl], by omega⟩
theorem scanN_later {rd : Nat → List Msg3 × Int} (h : (rd 0).2 = 5) : ∀ n, (scanN rd (n + 1)).2.2 = true
  | 0 => by simp [scanN, h]
  | n + 1 => by
    have ih := scanN_later h n
    rw [scanN]
    simp only [ih, Bool.true_or]
/-- for an epoch before, they are a later one's -/
theorem Has.before {d : Dv} {f : Nat → ByteArray} {fr : Nat} {e : Int} {gs : List (List Msg3)} (h : Has f fr e gs) (hd : DL d f) (h0 : 0 < gs.length) : scanV (rdOf d (Wl.new (e - 1) fr)) = ([], 0, 5) := by
  have h1 : (rdOf d (Wl.new (e - 1) fr) 0).2 = 5 := by
    unfold rdOf
    rw [hd.read _ (by unfold Wl.at_ Wl.new; show 2 + (fr + 0) % 8 < 64; omega)]
    show (Go.Proofs.YtcklgaenedlbiaaGreat.readW (e - 1) 0 (f (2 + (fr + 0) % 8))).2 = 5
    unfold Go.Proofs.YtcklgaenedlbiaaGreat.readW
    rw [h.mine 0 h0, if_neg (by simp), if_pos (by show e - 1 < e; omega)]
  unfold scanV
  rw [scanN_later h1 7, if_pos rfl]
theorem Has.sync {f : Nat → ByteArray} {fr : Nat} {e : Int} {gs : List (List Msg3)} {v : Wl} (h : Has f fr e gs) (hv : WlOk v) (h1 : v.from_ = fr) (h2 : v.epoch = e) (h3 : v.used = gs.length) :
    Has (putL f (stamps v v.texts v.texts.length)) fr e (gs ++ g2 [] v.pend) := by
  have hs := hv.size
  have hf := hv.fit
  have hl := texts_length v
  have hat : ∀ k, v.at_ k = 2 + (fr + k) % 8 := fun k => by unfold Wl.at_; rw [hs, h1]
  have hg : ∀ g ∈ g2 [] v.pend, g ≠ [] ∧ (∀ x ∈ g, isB x = true) ∧ 1 + sw g ≤ 218 := fun g hg => by
    have a := g2_each v.pend [] (fun x hx => isB_wt (hv.all x hx)) (by simp [sw]) g hg
    exact ⟨a.1, fun x hx => hv.all x ((g2_mem hg).1 x hx), a.2⟩
  have get := fun k hk => stamps_get hs v.texts f v.texts.length (by omega) k hk
  refine ⟨fun k hk => ?_, fun k hk hk8 => ?_, by rw [List.length_append]; omega, fun g hg' => ?_⟩
  · rw [List.length_append] at hk
    rw [← hat, get k (by omega)]
    by_cases c : k < gs.length
    · rw [if_neg (by omega), List.getElem_append_left c, hat]
      exact h.mine k c
    · rw [if_pos (by omega), List.getElem_append_right (by omega), h2]
      have ht : v.texts.getD (k - v.used) ⟨#[]⟩ = bytesG (g2 [] v.pend)[k - gs.length] := by
        rw [List.getD_eq_getElem?_getD, List.getElem?_eq_getElem (by omega)]
        simp only [Wl.texts, List.getElem_map, Option.getD_some, h3]
      rw [ht]
      have hb : (bytesG (g2 [] v.pend)[k - gs.length]).size ≤ 218 := texts_size hv _ (by unfold Wl.texts; exact List.mem_map_of_mem (List.getElem_mem _))
      exact readV_stampW hb (by rw [← h2]; exact hv.e1) (by rw [← h2]; exact hv.e2) (by omega) (by omega)
  · rw [List.length_append] at hk
    rw [← hat, get k hk8, if_neg (by omega), hat]
    exact h.rest k (by omega) hk8
  · rcases List.mem_append.1 hg' with h4 | h4
    · exact h.good g h4
    · exact hg g h4
end Go.Proofs.YtcklgaenedlbiaaGreat

namespace Go.Proofs.YtcklgaenedlbiaaGreat
open Go.RowKit Go.Sort

theorem texts_pos {v : Wl} (hv : WlOk v) (h : v.pend ≠ []) : 1 ≤ v.texts.length := by
  rw [texts_length]
  exact (g2_bound v.pend [] (by simp) (fun x hx => isB_wt (hv.all x hx)) (by simpa using h)).2
theorem sync_used (v : Wl) : (syncV v).used = v.used + v.texts.length := by
  unfold syncV
  by_cases h : v.pend = []
  · rw [if_pos h, texts_nil h]; rfl
  · rw [if_neg h]
theorem sync_pend (v : Wl) : (syncV v).pend = [] := by
  unfold syncV
  by_cases h : v.pend = []
  · rw [if_pos h]; exact h
  · rw [if_neg h]
theorem sync_same (v : Wl) : (syncV v).size = v.size ∧ (syncV v).epoch = v.epoch ∧ (syncV v).from_ = v.from_ := by
  unfold syncV
  split
  · exact ⟨rfl, rfl, rfl⟩
  · exact ⟨rfl, rfl, rfl⟩
theorem WlOk.sync {v : Wl} (hv : WlOk v) : WlOk (syncV v) := by
  obtain ⟨h1, h2, h3⟩ := sync_same v
  have hf := hv.fit
  rw [← texts_length] at hf
  exact ⟨by rw [h1]; exact hv.size, by rw [h3]; exact hv.from_, by rw [h2]; exact hv.e1, by rw [h2]; exact hv.e2, by rw [sync_pend]; simp, by rw [sync_pend]; simp, by rw [sync_pend, sync_used]; exact hf⟩
theorem filter_all {l : List Msg3} (h : ∀ x ∈ l, isB x = true) : l.filter isB = l := List.filter_eq_self.2 h
theorem need_all {l : List Msg3} (h : ∀ x ∈ l, isB x = true) : needOf l = (g2 [] l).length := by unfold needOf; rw [filter_all h]
theorem WlOk.add {v : Wl} (hv : WlOk v) {m : Msg3} (hm : isB m = true) (hf : v.fits m = true) (hl : v.pend.length ≤ 240) : WlOk { v with pend := v.pend ++ [m] } := by
  have hall : ∀ x ∈ v.pend ++ [m], isB x = true := by
    intro x hx
    rcases List.mem_append.1 hx with h | h
    · exact hv.all x h
    · rw [List.mem_singleton.1 h]; exact hm
  unfold Wl.fits at hf
  rw [hm, Bool.true_and, decide_eq_true_eq, need_all hall, hv.size] at hf
  exact ⟨hv.size, hv.from_, hv.e1, hv.e2, hall, by simp only [List.length_append, List.length_singleton]; omega, hf⟩
/-- a device with a log over it, as a statement goes on -/
structure RoomI (w wx : World) (p r c : Nat) (d : Dv) (v : Wl) (F G : List Nat) : Prop where
  lw : LW w wx p r d v F G
  ok : WlOk v
  fuse : d.fuse < 0
  on : d.off = false
  count : d.loose.length + d.rd + d.wr + d.fl ≤ c + 2 * v.used
  cl : c ≤ 940
theorem RoomI.below {w wx wy : World} {p r c : Nat} {d : Dv} {v : Wl} {F G : List Nat} (h : RoomI w wx p r c d v F G) (hb : Below wx.heap.size wx wy) : RoomI w wy p r c d v F G := ⟨h.lw.below hb, h.ok, h.fuse, h.on, h.count, h.cl⟩
theorem syncD_same (v : Wl) (d : Dv) : (syncD v d).fuse = d.fuse ∧ (syncD v d).off = d.off ∧ (syncD v d).rd = d.rd := by
  unfold syncD
  split
  · exact ⟨rfl, rfl, rfl⟩
  · exact ⟨rfl, rfl, rfl⟩
theorem syncD_count {v : Wl} (hv : WlOk v) (d : Dv) : (syncD v d).loose.length + (syncD v d).wr + (syncD v d).fl ≤ d.loose.length + d.wr + d.fl + 2 * v.texts.length := by
  by_cases h : v.pend = []
  · unfold syncD; rw [if_pos h]; omega
  · have := texts_pos hv h
    unfold syncD; rw [if_neg h]
    simp only [List.length_nil]; omega
theorem RoomI.sync {w wx : World} {p r c : Nat} {d : Dv} {v : Wl} {F G : List Nat} (h : RoomI w wx p r c d v F G) :
    Calls Tryz.prog 15 #[.pointer (some ⟨r, 0, none⟩)] wx fun e w' => e = .returned (.int .i64 0) ∧ ∃ F' G', RoomI w w' p r c (syncD v d) (syncV v) F' G' := by
  have hu := h.ok.fit
  have hc := h.count
  have hcl := h.cl
  refine (wal_Sync h.lw h.ok h.fuse h.on (by omega)).mono ?_
  rintro e w' ⟨rfl, F', G', hl, _, _⟩
  obtain ⟨s1, s2, s3⟩ := syncD_same v d
  have s4 := syncD_count h.ok d
  exact ⟨rfl, F', G', hl, h.ok.sync, by rw [s1]; exact h.fuse, by rw [s2]; exact h.on, by rw [sync_used, s3]; omega, hcl⟩
theorem RoomI.used {w wx : World} {p r c : Nat} {d : Dv} {v : Wl} {F G : List Nat} (h : RoomI w wx p r c d v F G) :
    Calls Tryz.prog 19 #[.pointer (some ⟨r, 0, none⟩)] wx fun e w' => e = .returned (.int .i64 v.used) ∧ wx = w' := by
  obtain ⟨P, hi, _⟩ := h.lw.wal.inn
  exact wal_Used hi
theorem RoomI.pending {w wx : World} {p r c : Nat} {d : Dv} {v : Wl} {F G : List Nat} (h : RoomI w wx p r c d v F G) :
    Calls Tryz.prog 18 #[.pointer (some ⟨r, 0, none⟩)] wx fun e w' => ∃ A cap, e = .returned (.slice A v.pend.length cap) ∧ w'.ownsRowF 0 39 3 (.slice A v.pend.length cap) v.pend.length (v.pend.flatMap msgCells) ∧ Below wx.heap.size wx w' ∧ ∀ k, (Value.slice A v.pend.length cap).ownBlock = some k → wx.heap.size ≤ k := by
  obtain ⟨P, hi, _⟩ := h.lw.wal.inn
  have hl := h.ok.len
  refine (wal_Pending hi (by omega)).mono ?_
  rintro e w' ⟨V, rfl, ho, hb⟩
  have h1 := World.ownsRowF_of ho
  obtain ⟨A, cap, rfl, _⟩ := ownsRowF_row (ownsRowF_zero h1)
  exact ⟨A, cap, rfl, ownsRowF_zero h1, hb, fun k hk => (h1.lt k hk).1⟩
theorem RoomI.fits {w wx : World} {p r c : Nat} {d : Dv} {v : Wl} {F G : List Nat} (h : RoomI w wx p r c d v F G) (m : Msg3) :
    Calls Tryz.prog 9 #[.pointer (some ⟨r, 0, none⟩), .agg #[.int .i64 m.1, .string m.2.1, .string m.2.2]] wx fun e w' => e = .returned (.bool (v.fits m)) ∧ Below wx.heap.size wx w' := by
  obtain ⟨P, hi, _⟩ := h.lw.wal.inn
  have hl := h.ok.len
  have hs := h.ok.size
  have hu := h.ok.fit
  exact wal_Fits hi m (by omega) (by omega) (by omega)
theorem RoomI.add {w wx : World} {p r c : Nat} {d : Dv} {v : Wl} {F G : List Nat} (h : RoomI w wx p r c d v F G) (m : Msg3) (hl : v.pend.length ≤ 240) :
    Calls Tryz.prog 11 #[.pointer (some ⟨r, 0, none⟩), .agg #[.int .i64 m.1, .string m.2.1, .string m.2.2]] wx fun e w' => e = .returned (.int .i64 (v.add m).2) ∧ ∃ G', RoomI w w' p r c d (v.add m).1 F G' := by
  have hs := h.ok.size
  have hu := h.ok.fit
  refine (wal_Add h.lw.wal h.lw.dev.bel.size m (by omega) (by omega) (by omega)).mono ?_
  rintro e w' ⟨rfl, hp⟩
  obtain ⟨G', hl', _, _⟩ := h.lw.wal1 hp
  refine ⟨rfl, G', hl', ?_, h.fuse, h.on, ?_, h.cl⟩
  · unfold Wl.add
    split
    · rename_i h1
      split
      · rename_i h2
        exact h.ok.add h1 h2 hl
      · exact h.ok
    · exact h.ok
  · unfold Wl.add
    split
    · split
      · exact h.count
      · exact h.count
    · exact h.count
theorem RoomI.count_ {w wx : World} {p r c : Nat} {d : Dv} {v : Wl} {F G : List Nat} (h : RoomI w wx p r c d v F G) (A : Option Addr) (cap : Nat) (W : World) (hr : Row W A (v.pend.flatMap msgCells)) :
    Calls Tryz.prog 33 #[.slice A v.pend.length cap] W fun e w' => e = .returned (.int .i64 (v.texts.length : Nat)) ∧ Below W.heap.size W w' := by
  have hl := h.ok.len
  have := rec_Count_any A cap v.pend (by omega) W hr
  rw [filter_all h.ok.all, ← texts_length] at this
  exact this
/-- the same, and what is as it was -/
theorem RoomI.syncK {w wx : World} {p r c : Nat} {d : Dv} {v : Wl} {F G : List Nat} (h : RoomI w wx p r c d v F G) :
    Calls Tryz.prog 15 #[.pointer (some ⟨r, 0, none⟩)] wx fun e w' => e = .returned (.int .i64 0) ∧ ∃ F' G', RoomI w w' p r c (syncD v d) (syncV v) F' G' ∧ Keeps (F ++ G) wx w' ∧ (∀ k, k ∈ F' ++ G' → k ∈ F ++ G ∨ wx.heap.size ≤ k) := by
  have hu := h.ok.fit
  have hc := h.count
  have hcl := h.cl
  refine (wal_Sync h.lw h.ok h.fuse h.on (by omega)).mono ?_
  rintro e w' ⟨rfl, F', G', hl, hk, hn⟩
  obtain ⟨s1, s2, s3⟩ := syncD_same v d
  have s4 := syncD_count h.ok d
  exact ⟨rfl, F', G', ⟨hl, h.ok.sync, by rw [s1]; exact h.fuse, by rw [s2]; exact h.on, by rw [sync_used, s3]; omega, hcl⟩, hk, hn⟩
theorem RoomI.addK {w wx : World} {p r c : Nat} {d : Dv} {v : Wl} {F G : List Nat} (h : RoomI w wx p r c d v F G) (m : Msg3) (hl : v.pend.length ≤ 240) :
    Calls Tryz.prog 11 #[.pointer (some ⟨r, 0, none⟩), .agg #[.int .i64 m.1, .string m.2.1, .string m.2.2]] wx fun e w' => e = .returned (.int .i64 (v.add m).2) ∧ ∃ G', RoomI w w' p r c d (v.add m).1 F G' ∧ Keeps G wx w' ∧ (∀ k, k ∈ G' → k ∈ G ∨ wx.heap.size ≤ k) := by
  have hs := h.ok.size
  have hu := h.ok.fit
  refine (wal_Add h.lw.wal h.lw.dev.bel.size m (by omega) (by omega) (by omega)).mono ?_
  rintro e w' ⟨rfl, hp⟩
  obtain ⟨G', hl', hk, hn⟩ := h.lw.wal1 hp
  refine ⟨rfl, G', ⟨hl', ?_, h.fuse, h.on, ?_, h.cl⟩, hk, hn⟩
  · unfold Wl.add
    split
    · rename_i h1
      split
      · rename_i h2
        exact h.ok.add h1 h2 hl
      · exact h.ok
    · exact h.ok
  · unfold Wl.add
    split
    · split
      · exact h.count
      · exact h.count
    · exact h.count
theorem RoomI.scan {w wx : World} {p r c : Nat} {d : Dv} {v : Wl} {F G : List Nat} (h : RoomI w wx p r c d v F G) (e : Int) (f : Nat) (h1 : 1 ≤ e) (h2 : e ≤ 2147483647) (hf : f < 8) (hc : c + 8 ≤ 940) :
    Calls Tryz.prog 8 #[.pointer (some ⟨p, 0, none⟩), .int .i64 e, .int .i64 f] wx fun e' w' => ∃ A cap l n cc, (l, n, cc) = scanV (rdOf d (Wl.new e f)) ∧ e' = .returned (.tuple #[.slice A l.length cap, .int .i64 (n : Nat), .int .i64 cc]) ∧
      w'.ownsRowF 0 39 3 (.slice A l.length cap) l.length (l.flatMap msgCells) ∧ (∀ k, (Value.slice A l.length cap).ownBlock = some k → wx.heap.size ≤ k) ∧ RoomI w w' p r (c + 8) { d with rd := d.rd + 8 } v F G ∧ Keeps F wx w' := by
  have hcn := h.count
  have hu := h.ok.fit
  refine (wal_Scan h.lw.dev e f h1 h2 hf h.on (by omega)).mono ?_
  rintro e' w' ⟨A, cap, l, n, cc, hlc, rfl, ho, hn, hd, hk⟩
  exact ⟨A, cap, l, n, cc, hlc, rfl, ho, hn, ⟨h.lw.dev0 hd hk, h.ok, h.fuse, h.on, by simp only; omega, hc⟩, hk⟩
theorem RoomI.next {w wx : World} {p r c : Nat} {d : Dv} {v : Wl} {F G : List Nat} (h : RoomI w wx p r c d v F G) :
    Calls Tryz.prog 20 #[.pointer (some ⟨r, 0, none⟩)] wx fun e w' => e = .returned (.int .i64 ((v.from_ + v.used) % 8 : Nat)) ∧ Below wx.heap.size wx w' := by
  obtain ⟨P, hi, _⟩ := h.lw.wal.inn
  have hs := h.ok.size
  have hf := h.ok.from_
  have hu := h.ok.fit
  have := wal_Next hi (by omega) (by omega) (by omega) (by omega)
  rw [hs] at this
  exact this
/-- what is written lies beside both -/
theorem RoomI.other {w wx wy : World} {p r c : Nat} {d : Dv} {v : Wl} {F G X : List Nat} (h : RoomI w wx p r c d v F G) (hk : Keeps X wx wy) (h0 : ∀ k, k ∈ X → w.heap.size ≤ k) (hF : ∀ k, k ∈ F → k ∉ X) (hG : ∀ k, k ∈ G → k ∉ X) : RoomI w wy p r c d v F G :=
  ⟨h.lw.other hk h0 hF hG, h.ok, h.fuse, h.on, h.count, h.cl⟩
end Go.Proofs.YtcklgaenedlbiaaGreat
