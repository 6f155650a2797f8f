/- The document's answer: the paths of two trees; a file by its path. -/
import Derived.Test.YtekeiieefkgopaaXc
namespace Go.Proofs.Ytekeiieefkgopaa.Ta
open Go Go.RowKit Go.Proofs.Ytekeiieefkgopaa.Aa Go.Proofs.Ytekeiieefkgopaa.Vw Go.Proofs.Ytekeiieefkgopaa.Ma Go.Proofs.Ytekeiieefkgopaa.Mb Go.Proofs.Ytekeiieefkgopaa.Na Go.Proofs.Ytekeiieefkgopaa.Ne Go.Proofs.Ytekeiieefkgopaa.No Go.Proofs.Ytekeiieefkgopaa.Nq Go.Proofs.Ytekeiieefkgopaa.Ba Go.Proofs.Ytekeiieefkgopaa.Bb Go.Proofs.Ytekeiieefkgopaa.Bc Go.Proofs.Ytekeiieefkgopaa.Bg Go.Proofs.Ytekeiieefkgopaa.Bk Go.Proofs.Ytekeiieefkgopaa.Bn Go.Proofs.Ytekeiieefkgopaa.Bp
set_option linter.unusedVariables false
set_option linter.unusedSimpArgs false

theorem less_tri2 {a b : ByteArray} (h1 : less a b = false) (h2 : a ≠ b) : less b a = true := by
  cases h : less b a with
  | true => rfl
  | false => exact absurd (less_tri h1 h) h2
/-- One path more. -/
def putStep (x : ByteArray) (s : List ByteArray × Bool) (y : ByteArray) : List ByteArray × Bool :=
  if !(s.2 || decide (y = x)) && less x y then (s.1 ++ [x] ++ [y], true) else (s.1 ++ [y], s.2 || decide (y = x))
def putG (x : ByteArray) (l : List ByteArray) : List ByteArray × Bool := l.foldl (putStep x) ([], false)
def putR (l : List ByteArray) (x : ByteArray) : List ByteArray := if (putG x l).2 then (putG x l).1 else (putG x l).1 ++ [x]
theorem putG_next (x : ByteArray) (l : List ByteArray) (k : Nat) (hk : k < l.length) : putG x (l.take (k + 1)) = putStep x (putG x (l.take k)) l[k] := by
  unfold putG
  rw [List.take_succ_eq_append_getElem hk, List.foldl_append]
  rfl
theorem putG_len (x : ByteArray) (l : List ByteArray) : (putG x l).1.length + (if (putG x l).2 then 0 else 1) ≤ l.length + 1 ∧ (putG x l).1.length ≤ l.length + 1 := by
  have h : ∀ (l : List ByteArray) (s : List ByteArray × Bool), (l.foldl (putStep x) s).1.length + (if (l.foldl (putStep x) s).2 then 0 else 1) ≤ s.1.length + (if s.2 then 0 else 1) + l.length := by
    intro l
    induction l with
    | nil => intro s; exact Nat.le_refl _
    | cons y r ih =>
      intro s
      obtain ⟨so, sd⟩ := s
      rw [List.foldl_cons]
      have h1 := ih (putStep x (so, sd) y)
      have h2 : (putStep x (so, sd) y).1.length + (if (putStep x (so, sd) y).2 then 0 else 1) ≤ so.length + (if sd then 0 else 1) + 1 := by
        unfold putStep
        cases sd with
        | true => simp
        | false =>
          by_cases hy : y = x
          · simp [hy]
          · by_cases hl : less x y = true
            · simp [hy, hl]
            · simp [hy, hl]
      simp only [List.length_cons]
      omega
  have h3 := h l ([], false)
  unfold putG
  simp only [List.length_nil, Bool.false_eq_true, if_false] at h3
  constructor
  · omega
  · omega
theorem putR_len (l : List ByteArray) (x : ByteArray) : (putR l x).length ≤ l.length + 1 := by
  have h := putG_len x l
  unfold putR
  split
  · exact h.2
  · rename_i hc
    rw [if_neg hc] at h
    rw [List.length_append]
    simp only [List.length_singleton]
    omega
/-- One more, in its place. -/
def insS (x : ByteArray) : List ByteArray → List ByteArray
  | [] => [x]
  | y :: r => if y = x then y :: r else if less x y then x :: y :: r else y :: insS x r
theorem putG_done (x : ByteArray) (r : List ByteArray) : ∀ o : List ByteArray, r.foldl (putStep x) (o, true) = (o ++ r, true) := by
  induction r with
  | nil => intro o; simp
  | cons y r ih =>
    intro o
    rw [List.foldl_cons]
    have : putStep x (o, true) y = (o ++ [y], true) := by unfold putStep; simp
    rw [this, ih]
    simp
theorem putG_ins (x : ByteArray) (r : List ByteArray) : ∀ o : List ByteArray, (if (r.foldl (putStep x) (o, false)).2 then (r.foldl (putStep x) (o, false)).1 else (r.foldl (putStep x) (o, false)).1 ++ [x]) = o ++ insS x r := by
  induction r with
  | nil => intro o; simp [insS]
  | cons y r ih =>
    intro o
    rw [List.foldl_cons]
    unfold insS
    by_cases he : y = x
    · have : putStep x (o, false) y = (o ++ [y], true) := by unfold putStep; simp [he]
      rw [this, putG_done, if_pos he]
      simp
    · by_cases hl : less x y = true
      · have : putStep x (o, false) y = (o ++ [x] ++ [y], true) := by unfold putStep; simp [he, hl]
        rw [this, putG_done, if_neg he, if_pos hl]
        simp
      · have : putStep x (o, false) y = (o ++ [y], false) := by unfold putStep; simp [he, hl]
        rw [this, ih, if_neg he, if_neg hl]
        simp
theorem putR_ins (l : List ByteArray) (x : ByteArray) : putR l x = insS x l := by
  have := putG_ins x l []
  unfold putR putG
  rw [this]; rfl
theorem mem_insS {x z : ByteArray} (l : List ByteArray) : z ∈ insS x l ↔ (z = x ∨ z ∈ l) := by
  induction l with
  | nil => simp [insS]
  | cons y r ih =>
    unfold insS
    split
    · rename_i he
      subst he
      constructor
      · exact .inr
      · rintro (rfl | h)
        · exact List.mem_cons_self ..
        · exact h
    · split
      · exact List.mem_cons
      · rw [List.mem_cons, ih, List.mem_cons]
        constructor
        · rintro (h | h | h)
          · exact .inr (.inl h)
          · exact .inl h
          · exact .inr (.inr h)
        · rintro (h | h | h)
          · exact .inr (.inl h)
          · exact .inl h
          · exact .inr (.inr h)
theorem insS_ss {x : ByteArray} {l : List ByteArray} (h : RiseS l) : RiseS (insS x l) := by
  induction l with
  | nil => simp [insS, RiseS]
  | cons y r ih =>
    have h' := List.pairwise_cons.1 h
    unfold insS
    split
    · exact h
    · rename_i hne
      split
      · rename_i hl
        exact List.pairwise_cons.2 ⟨fun z hz => by
          rcases List.mem_cons.1 hz with rfl | hz
          · exact hl
          · exact less_trans hl (h'.1 z hz), h⟩
      · rename_i hl
        refine List.pairwise_cons.2 ⟨fun z hz => ?_, ih h'.2⟩
        rcases (mem_insS r).1 hz with rfl | hz
        · exact less_tri2 (by simpa using hl) (fun e => hne e.symm)
        · exact h'.1 z hz
theorem mem_putR {x z : ByteArray} (l : List ByteArray) : z ∈ putR l x ↔ (z = x ∨ z ∈ l) := by rw [putR_ins]; exact mem_insS l
theorem putR_ss {x : ByteArray} {l : List ByteArray} (h : RiseS l) : RiseS (putR l x) := by rw [putR_ins]; exact insS_ss h
/-- Put, one by one. -/
def putAll (acc l : List ByteArray) : List ByteArray := l.foldl putR acc
theorem mem_putAll {z : ByteArray} (l : List ByteArray) : ∀ acc, z ∈ putAll acc l ↔ (z ∈ acc ∨ z ∈ l) := by
  induction l with
  | nil => intro acc; simp [putAll]
  | cons y r ih =>
    intro acc
    show z ∈ putAll (putR acc y) r ↔ _
    rw [ih, mem_putR, List.mem_cons]
    constructor
    · rintro ((h | h) | h)
      · exact .inr (.inl h)
      · exact .inl h
      · exact .inr (.inr h)
    · rintro (h | h | h)
      · exact .inl (.inr h)
      · exact .inl (.inl h)
      · exact .inr h
theorem putAll_ss (l : List ByteArray) : ∀ acc, RiseS acc → RiseS (putAll acc l) := by
  induction l with
  | nil => exact fun acc h => h
  | cons y r ih => exact fun acc h => ih _ (putR_ss h)
/-- The paths of two trees, put one by one. -/
def rpaths (a b : List Fl) : List ByteArray := putAll [] ((a ++ b).map (·.path))
theorem rpaths_eq {a b : List Fl} (ha : Rise a) (hb : Rise b) : rpaths a b = pathsL a b := by
  refine riseS_ext (putAll_ss _ [] (by simp [RiseS])) (paths_rise a b ha hb) (fun x => ?_)
  unfold rpaths
  rw [mem_putAll, paths_mem, List.map_append, List.mem_append]
  simp
theorem putAll_next (l : List ByteArray) (k : Nat) (hk : k < l.length) : putAll [] (l.take (k + 1)) = putR (putAll [] (l.take k)) l[k] := by
  unfold putAll
  rw [List.take_succ_eq_append_getElem hk, List.foldl_append]
  rfl
theorem putAll_len (l : List ByteArray) : (putAll [] l).length ≤ l.length := by
  have : ∀ (l acc : List ByteArray), (putAll acc l).length ≤ acc.length + l.length := by
    intro l
    induction l with
    | nil => intro acc; exact Nat.le_refl _
    | cons x r ih =>
      intro acc
      have h1 := ih (putR acc x)
      have h2 := putR_len acc x
      show (putAll (putR acc x) r).length ≤ _
      rw [List.length_cons]
      omega
  have h := this l []
  simpa using h
theorem rless_of (a b : ByteArray) (w : World) (ha : a.size ≤ 1000) (hb : b.size ≤ 1000) :
    Calls Try.prog 21 #[.string a, .string b] w fun e w' => e = .returned (.bool (less a b)) ∧ Ch no w w' :=
  (less_of a b w (by omega) (by omega)).mono fun e w' h => ⟨h.1, h.2.ch no⟩
theorem own_one (w : World) (x : ByteArray) (B : Nat) (hB : B ≤ w.heap.size) : OwnS (w.alloc (.cells #[.string x] 9)) B (.slice (some ⟨w.heap.size, 0, none⟩) 1 1) [x] :=
  ⟨by simp, .inr ⟨w.heap.size, 1, #[.string x], rfl, hB, bNew _ _, Nat.le_refl _, by unfold maxLen; omega, by simp, by simp⟩⟩
theorem row_of_own {w : World} {B : Nat} {A : Option Addr} {n c : Nat} {xs : List ByteArray} (h : OwnS w B (.slice A n c) xs) : El.str.Row w A c xs := by
  obtain ⟨A', c', h1, h2⟩ := El.Row.of_own h
  injection h1 with e1 e2 e3
  subst e1; subst e3
  exact h2
theorem get_yes {t : List Fl} {p : ByteArray} {k : Nat} (hk : k < t.length) (hn : ∀ j (hj : j < t.length), j < k → t[j].path ≠ p) (he : t[k].path = p) : ofF t p = ⟨t[k].text, true⟩ := by
  refine ofF_some ?_
  unfold getF
  have : t.find? (fun f => decide (f.path = p)) = some t[k] := by
    rw [List.find?_eq_some_iff_getElem]
    exact ⟨by simpa using he, k, hk, rfl, fun j hj => by simpa using hn j (by omega) hj⟩
  rw [this]; rfl
theorem get_no {t : List Fl} {p : ByteArray} (hn : ∀ j (hj : j < t.length), t[j].path ≠ p) : ofF t p = ⟨ByteArray.empty, false⟩ := by
  refine ofF_none ?_
  unfold getF
  have : t.find? (fun f => decide (f.path = p)) = none := by
    rw [List.find?_eq_none]
    intro f hf
    obtain ⟨j, hj, rfl⟩ := List.mem_iff_getElem.1 hf
    simpa using hn j hj
  rw [this]; rfl
set_option maxRecDepth 100000 in
set_option maxHeartbeats 4000000 in
theorem get_of (A : Option Addr) (c : Nat) (t : List Fl) (p : ByteArray) (w : World) (h : file.Row w A c t) :
    Calls Try.prog 25 #[.slice A t.length c, .string p] w fun e w' => e = .returned (.tuple #[.string (ofF t p).text, .bool (ofF t p).is]) ∧ w = w' := by
  have hlx := h.len
  have HX := Lib.hid h
  clear h
  go_enter Try.func25, Try.ntmps25
  go_wp2_with fail
  go_loopw [6] (fun i wr => ∃ k : Nat, k ≤ t.length ∧ i = .int .i64 k ∧ Hid (∀ j (hj : j < t.length), j < k → t[j].path ≠ p) ∧ w = wr) (fun i _ => t.length - (intOf i).toNat)
  case atStart => exact ⟨0, by omega, rfl, Lib.hid (fun j hj h => by omega), rfl⟩
  case round =>
    obtain ⟨k, hk, rfl, HN, rfl⟩ := hrel
    by_cases hlt : k < t.length
    · obtain ⟨ad, rfl, p0, p1⟩ := file_at HX.out k hlt
      by_cases he : t[k].path = p
      · have hbe := beq_yes he
        have HF := Lib.hid (get_yes hlt HN.out he)
        clear he
        go_wp2_with fail
        go_ret2
        exact ⟨by rw [HF.out]; rfl, rfl⟩
      · have hbe := beq_no he
        have HN2 : Hid (∀ j (hj : j < t.length), j < k + 1 → t[j].path ≠ p) := Lib.hid (fun j hj hjk => by
          by_cases hjk2 : j = k
          · subst hjk2; exact he
          · exact HN.out j hj (by omega))
        clear he
        go_wp2_with fail
        go_roundw
        case rel => exact ⟨k + 1, by omega, by go_num, HN2, trivial⟩
        case measure => simp [intOf]; omega
    · have HF := Lib.hid (get_no (fun j hj => HN.out j hj (by omega)))
      go_wp2_with fail
      go_ret2
      exact ⟨by rw [HF.out]; rfl, rfl⟩
set_option maxRecDepth 100000 in
set_option maxHeartbeats 16000000 in
theorem paths_of (Aa Ab : Option Addr) (ca cb : Nat) (a b : List Fl) (w : World) (ha : file.Row w Aa ca a) (hb : file.Row w Ab cb b) (la : a.length ≤ 1000) (lb : b.length ≤ 1000) (za : Szs 1000 a) (zb : Szs 1000 b) :
    Calls Try.prog 18 #[.slice Aa a.length ca, .slice Ab b.length cb] w fun e w' => ∃ v, e = .returned v ∧ OwnS w' w.heap.size v (rpaths a b) ∧ Ch no w w' := by
  obtain ⟨i0, hi, hz0, hz1, hz2⟩ := info_parts infoStr
  obtain ⟨ps, hps⟩ : ∃ ps, (a ++ b).map (·.path) = ps := ⟨_, rfl⟩
  have HLP : Hid (ps.length = a.length + b.length) := Lib.hid (by rw [← hps, List.length_map, List.length_append])
  have HPA : Hid (∀ i (h : i < a.length), ∃ hi : i < ps.length, ps[i] = a[i].path) := Lib.hid (fun i h => by
    subst hps
    refine ⟨by rw [List.length_map, List.length_append]; omega, ?_⟩
    rw [List.getElem_map, List.getElem_append_left h])
  have HPB : Hid (∀ i (h : i < b.length), ∃ hi : a.length + i < ps.length, ps[a.length + i] = b[i].path) := Lib.hid (fun i h => by
    subst hps
    refine ⟨by rw [List.length_map, List.length_append]; omega, ?_⟩
    rw [List.getElem_map, List.getElem_append_right (by omega)]
    congr 2
    omega)
  have HPZ : Hid (∀ y ∈ ps, y.size ≤ 1000) := Lib.hid (fun y hy => by
    rw [← hps] at hy
    obtain ⟨f, hf, rfl⟩ := List.mem_map.1 hy
    rcases List.mem_append.1 hf with hf | hf
    · exact (za f hf).1
    · exact (zb f hf).1)
  have HRP : Hid (rpaths a b = putAll [] ps) := Lib.hid (by unfold rpaths; rw [hps])
  have HA := Lib.hid ha; have HB := Lib.hid hb
  have HO0 : Hid (OwnS w w.heap.size (.slice none 0 0) (putAll [] (ps.take 0))) := Lib.hid ⟨by simp [putAll], .inl ⟨rfl, by simp [putAll]⟩⟩
  clear ha hb za zb hps
  go_enter Try.func18, Try.ntmps18
  go_wp2_with fail
  go_loopw [5, 6] (fun o i wr => ∃ k : Nat, k ≤ a.length + b.length ∧ i = .int .i64 k ∧ Hid (OwnS wr w.heap.size o (putAll [] (ps.take k))) ∧ Hid (Ch no w wr)) (fun _ i _ => a.length + b.length - (intOf i).toNat)
  case atStart => exact ⟨0, by omega, rfl, HO0, Lib.hid (Ch.refl _ _)⟩
  case round =>
    clear HO0
    obtain ⟨i, hk, rfl, HO, HC⟩ := hrel
    obtain ⟨Ao, co, hso⟩ := own_shape HO.out
    subst hso
    by_cases hlt : i < a.length + b.length
    · have hip : i < ps.length := by have := HLP.out; omega
      have HNX := Lib.hid (putAll_next ps i hip)
      have HLZ : Hid (∀ y ∈ putAll [] (ps.take i), y.size ≤ 1000) := Lib.hid (fun y hy => by
        rcases (mem_putAll _ _).1 hy with h | h
        · cases h
        · exact HPZ.out y (List.mem_of_mem_take h))
      have HXZ : Hid (ps[i].size ≤ 1000) := Lib.hid (HPZ.out _ (List.getElem_mem hip))
      have hll : (putAll [] (ps.take i)).length ≤ 2000 := by
        have h1 := putAll_len (ps.take i)
        rw [List.length_take] at h1
        omega
      by_cases hia : i < a.length
      · obtain ⟨hi2, hxa⟩ := HPA.out i hia
        obtain ⟨ad, had, p0, _⟩ := file_at (HA.out.ch HC.out) i hia
        subst had
        rw [← hxa] at p0
        obtain ⟨x, hx⟩ : ∃ x, ps[i] = x := ⟨_, rfl⟩
        rw [hx] at p0 HNX HXZ
        obtain ⟨l0, hl0e⟩ : ∃ l0, putAll [] (ps.take i) = l0 := ⟨_, rfl⟩
        rw [hl0e] at HO HNX HLZ hll ⊢
        clear hx hxa hl0e
        have hab : (i : Int) < (a.length : Int) + (b.length : Int) := by omega
        go_wp2_with fail
        clear p0
        obtain ⟨wI, hwI⟩ : ∃ wI, wr = wI := ⟨_, rfl⟩
        rw [hwI] at HO HC ⊢
        clear hwI
        have HXI := Lib.hid (row_of_own HO.out)
        have HOI : Hid (OwnS wI wI.heap.size (.slice none 0 0) (putG x (l0.take 0)).1) := Lib.hid ⟨by simp [putG], .inl ⟨rfl, by simp [putG]⟩⟩
        have hl0 := HXI.out.len
        clear HO
        go_loopw [8, 9, 10] (fun o dn i wr => ∃ k : Nat, k ≤ l0.length ∧ i = .int .i64 k ∧ dn = .bool (putG x (l0.take k)).2 ∧ Hid (OwnS wr wI.heap.size o (putG x (l0.take k)).1) ∧ Hid (Ch no wI wr)) (fun _ _ i _ => l0.length - (intOf i).toNat)
        case atStart => exact ⟨0, by omega, rfl, rfl, HOI, Lib.hid (Ch.refl _ _)⟩
        case round =>
          clear HOI
          have HCI := HC
          clear HC
          obtain ⟨k, hk, rfl, rfl, HO, HC⟩ := hrel
          have hgl := (putG_len x (l0.take k)).2
          have hwz := HC.out.size
          by_cases hlt : k < l0.length
          · obtain ⟨ad, had0, p0⟩ := (HXI.out.ch HC.out).flat_at k hlt
            subst had0
            have HGN := Lib.hid (putG_next x l0 k hlt)
            have HYZ : Hid (l0[k].size ≤ 1000) := Lib.hid (HLZ.out _ (List.getElem_mem _))
            rw [List.length_take, Nat.min_eq_left (by omega)] at hgl
            obtain ⟨y, hy⟩ : ∃ y, l0[k] = y := ⟨_, rfl⟩
            replace p0 : wr.cell? (ad.add k) = some (.string y) := p0.trans (congrArg (fun z => some (Value.string z)) hy)
            rw [hy] at HGN HYZ
            have HYE := Lib.hid hy
            clear hy
            obtain ⟨s, hs⟩ : ∃ s, putG x (l0.take k) = s := ⟨_, rfl⟩
            rw [hs] at HGN HO hgl ⊢
            obtain ⟨so, sd⟩ := s
            clear hs
            obtain ⟨A0, c0, ho0⟩ := own_shape HO.out
            subst ho0
            have hso : so.length ≤ 2001 := by simp only at hgl; omega
            by_cases he : y = x
            · have hbe := beq_yes he
              have HGR : Hid (putG x (l0.take (k + 1)) = (so ++ [y], true)) := Lib.hid (by rw [HGN.out]; unfold putStep; simp [he])
              clear he HGN
              go_upto_region 19 with (fail)
              have HRX : Hid (El.str.Row (wr.alloc (.cells #[.string y] 9)) (some ⟨wr.heap.size, 0, none⟩) 1 [y]) := Lib.hid (row_of_own (own_one wr y 0 (Nat.zero_le _)))
              go_wp2_with (at_builtin; refine app_row (fun _ => rfl) rfl _ _ 25 rfl wI.heap.size 9 i0 _ 16 Try.underlying25 hi hz0 hz1 hz2 rfl _ so.length _ rfl (own_ch HO.out ((Ch.refl no wr).alloc _) (fun _ _ => no_not _)) (some ⟨wr.heap.size, 0, none⟩) 1 [y] rfl HRX.out (by simp; unfold maxLen; omega) (by simp; omega) (by simp; omega) ?_; intro v9 w_v9 hown9 hgrow9 _; obtain ⟨A_v9, c_v9, h_v9⟩ := own_shape hown9; subst h_v9; have HO_v9 := Lib.hid hown9; have HC_v9 : Hid (Ch (fun k => wI.heap.size ≤ k) wr w_v9) := Lib.hid ((((Ch.refl _ wr).alloc _)).same ((grown_ch hgrow9).mono (fun k h => own_ge HO.out k h.symm))); clear hown9 hgrow9)
              go_roundw
              case rel => exact ⟨k + 1, by omega, by go_num, by rw [HGR.out], Lib.hid (by rw [HGR.out]; unfold OwnS; simp only [List.length_append, List.map_append, List.append_assoc]; simpa [List.append_assoc] using HO_v9.out), Lib.hid (HC.out.trans HC_v9.out (fun i hi h => by omega))⟩
              case measure => simp [intOf]; omega
            · have hbe := beq_no he
              cases sd with
              | true =>
                have HGR : Hid (putG x (l0.take (k + 1)) = (so ++ [y], true)) := Lib.hid (by rw [HGN.out]; unfold putStep; simp)
                clear he HGN
                go_upto_region 19 with (fail)
                have HRX : Hid (El.str.Row (wr.alloc (.cells #[.string y] 9)) (some ⟨wr.heap.size, 0, none⟩) 1 [y]) := Lib.hid (row_of_own (own_one wr y 0 (Nat.zero_le _)))
                go_wp2_with (at_builtin; refine app_row (fun _ => rfl) rfl _ _ 25 rfl wI.heap.size 9 i0 _ 16 Try.underlying25 hi hz0 hz1 hz2 rfl _ so.length _ rfl (own_ch HO.out ((Ch.refl no wr).alloc _) (fun _ _ => no_not _)) (some ⟨wr.heap.size, 0, none⟩) 1 [y] rfl HRX.out (by simp; unfold maxLen; omega) (by simp; omega) (by simp; omega) ?_; intro v9 w_v9 hown9 hgrow9 _; obtain ⟨A_v9, c_v9, h_v9⟩ := own_shape hown9; subst h_v9; have HO_v9 := Lib.hid hown9; have HC_v9 : Hid (Ch (fun k => wI.heap.size ≤ k) wr w_v9) := Lib.hid ((((Ch.refl _ wr).alloc _)).same ((grown_ch hgrow9).mono (fun k h => own_ge HO.out k h.symm))); clear hown9 hgrow9)
                go_roundw
                case rel => exact ⟨k + 1, by omega, by go_num, by rw [HGR.out], Lib.hid (by rw [HGR.out]; unfold OwnS; simp only [List.length_append, List.map_append, List.append_assoc]; simpa [List.append_assoc] using HO_v9.out), Lib.hid (HC.out.trans HC_v9.out (fun i hi h => by omega))⟩
                case measure => simp [intOf]; omega
              | false =>
                obtain ⟨r, hr⟩ : ∃ r, less x y = r := ⟨_, rfl⟩
                have hsl := rless_of x y wr HXZ.out HYZ.out
                rw [hr] at hsl
                have HR := Lib.hid hr
                clear hr
                cases r with
                | true =>
                  have HGR : Hid (putG x (l0.take (k + 1)) = (so ++ [x] ++ [y], true)) := Lib.hid (by rw [HGN.out]; unfold putStep; simp [he, HR.out])
                  clear he HGN
                  go_wp2_with fail
                  refine hsl.mono ?_
                  rintro e w2 ⟨rfl, hc2⟩
                  have HC2 := Lib.hid (HC.out.then_ hc2)
                  have HO2 := Lib.hid (own_ch HO.out hc2 (fun _ _ => no_not _))
                  replace p0 := cell_ch hc2 p0
                  have hwz2 := HC2.out.size
                  clear hc2 hsl
                  go_upto_region 17 with (fail)
                  have HRX : Hid (El.str.Row (w2.alloc (.cells #[.string x] 9)) (some ⟨w2.heap.size, 0, none⟩) 1 [x]) := Lib.hid (row_of_own (own_one w2 x 0 (Nat.zero_le _)))
                  go_wp2_with (first | (at_builtin; refine app_row (fun _ => rfl) rfl _ _ 25 rfl wI.heap.size 9 i0 _ 16 Try.underlying25 hi hz0 hz1 hz2 rfl _ so.length _ rfl (own_ch HO2.out ((Ch.refl no w2).alloc _) (fun _ _ => no_not _)) (some ⟨w2.heap.size, 0, none⟩) 1 [x] rfl HRX.out (by simp; unfold maxLen; omega) (by simp; omega) (by simp; omega) ?_; intro v8 w_v8 hown9 hgrow9 _; obtain ⟨A_v8, c_v8, h_v8⟩ := own_shape hown9; subst h_v8; have HO_v8 := Lib.hid hown9; have HC_v8 : Hid (Ch (fun k => wI.heap.size ≤ k) w2 w_v8) := Lib.hid ((((Ch.refl _ w2).alloc _)).same ((grown_ch hgrow9).mono (fun k h => own_ge HO2.out k h.symm))); clear hown9 hgrow9; have HC8 : Hid (Ch no wI w_v8) := Lib.hid (HC2.out.trans HC_v8.out (fun i hi h => by omega)); clear p0; obtain ⟨ad', had, p0⟩ := (HXI.out.ch HC8.out).flat_at k hlt; cases had; replace p0 := p0.trans (congrArg (fun z => some (Value.string z)) HYE.out); have hwz8 := HC8.out.size; have HRY : Hid (El.str.Row (w_v8.alloc (.cells #[.string y] 9)) (some ⟨w_v8.heap.size, 0, none⟩) 1 [y]) := Lib.hid (row_of_own (own_one w_v8 y 0 (Nat.zero_le _)))) | (at_builtin; refine app_row (fun _ => rfl) rfl _ _ 25 rfl wI.heap.size 9 i0 _ 16 Try.underlying25 hi hz0 hz1 hz2 rfl _ (so.length + [x].length) _ rfl (own_ch HO_v8.out ((Ch.refl no w_v8).alloc _) (fun _ _ => no_not _)) (some ⟨w_v8.heap.size, 0, none⟩) 1 [y] rfl HRY.out (by simp; unfold maxLen; omega) (by simp; omega) (by simp; omega) ?_; intro v9 w_v9 hown9 hgrow9 _; obtain ⟨A_v9, c_v9, h_v9⟩ := own_shape hown9; subst h_v9; have HO_v9 := Lib.hid hown9; have HC_v9 : Hid (Ch (fun k => wI.heap.size ≤ k) w_v8 w_v9) := Lib.hid ((((Ch.refl _ w_v8).alloc _)).same ((grown_ch hgrow9).mono (fun k h => own_ge HO_v8.out k h.symm))); clear hown9 hgrow9))
                  go_roundw
                  case rel => exact ⟨k + 1, by omega, by go_num, by rw [HGR.out], Lib.hid (by rw [HGR.out]; unfold OwnS; simp only [List.length_append, List.map_append, List.append_assoc]; simpa [List.append_assoc] using HO_v9.out), Lib.hid (HC8.out.trans HC_v9.out (fun i hi h => by omega))⟩
                  case measure => simp [intOf]; omega
                | false =>
                  have HGR : Hid (putG x (l0.take (k + 1)) = (so ++ [y], false)) := Lib.hid (by rw [HGN.out]; unfold putStep; simp [he, HR.out])
                  clear he HGN
                  go_wp2_with fail
                  refine hsl.mono ?_
                  rintro e w2 ⟨rfl, hc2⟩
                  have HC2 := Lib.hid (HC.out.then_ hc2)
                  have HO2 := Lib.hid (own_ch HO.out hc2 (fun _ _ => no_not _))
                  replace p0 := cell_ch hc2 p0
                  have hwz2 := HC2.out.size
                  clear hc2 hsl
                  go_upto_region 19 with (fail)
                  have HRX : Hid (El.str.Row (w2.alloc (.cells #[.string y] 9)) (some ⟨w2.heap.size, 0, none⟩) 1 [y]) := Lib.hid (row_of_own (own_one w2 y 0 (Nat.zero_le _)))
                  go_wp2_with (at_builtin; refine app_row (fun _ => rfl) rfl _ _ 25 rfl wI.heap.size 9 i0 _ 16 Try.underlying25 hi hz0 hz1 hz2 rfl _ so.length _ rfl (own_ch HO2.out ((Ch.refl no w2).alloc _) (fun _ _ => no_not _)) (some ⟨w2.heap.size, 0, none⟩) 1 [y] rfl HRX.out (by simp; unfold maxLen; omega) (by simp; omega) (by simp; omega) ?_; intro v9 w_v9 hown9 hgrow9 _; obtain ⟨A_v9, c_v9, h_v9⟩ := own_shape hown9; subst h_v9; have HO_v9 := Lib.hid hown9; have HC_v9 : Hid (Ch (fun k => wI.heap.size ≤ k) w2 w_v9) := Lib.hid ((((Ch.refl _ w2).alloc _)).same ((grown_ch hgrow9).mono (fun k h => own_ge HO2.out k h.symm))); clear hown9 hgrow9)
                  go_roundw
                  case rel => exact ⟨k + 1, by omega, by go_num, by rw [HGR.out], Lib.hid (by rw [HGR.out]; unfold OwnS; simp only [List.length_append, List.map_append, List.append_assoc]; simpa [List.append_assoc] using HO_v9.out), Lib.hid (HC2.out.trans HC_v9.out (fun i hi h => by omega))⟩
                  case measure => simp [intOf]; omega
          · have HT : Hid (l0.take k = l0) := Lib.hid (by rw [List.take_of_length_le (by omega)])
            rw [HT.out] at HO hgl ⊢
            obtain ⟨s, hs⟩ : ∃ s, putG x l0 = s := ⟨_, rfl⟩
            have HPR : Hid (putR l0 x = if s.2 then s.1 else s.1 ++ [x]) := Lib.hid (by unfold putR; rw [hs])
            rw [hs] at HO hgl ⊢
            obtain ⟨so, sd⟩ := s
            clear hs
            obtain ⟨A0, c0, ho0⟩ := own_shape HO.out
            subst ho0
            have hso : so.length ≤ 2001 := by simp only at hgl; omega
            have hwI := HCI.out.size
            cases sd with
            | true =>
              go_wp2_with fail
              go_roundw
              case rel => exact ⟨i + 1, by omega, by go_num, Lib.hid (by rw [HNX.out, HPR.out]; exact own_less HO.out hwI), Lib.hid (HCI.out.then_ HC.out)⟩
              case measure => simp [intOf]; omega
            | false =>
              go_upto_region 21 with (fail)
              have HRX : Hid (El.str.Row (wr.alloc (.cells #[.string x] 9)) (some ⟨wr.heap.size, 0, none⟩) 1 [x]) := Lib.hid (row_of_own (own_one wr x 0 (Nat.zero_le _)))
              go_wp2_with (at_builtin; refine app_row (fun _ => rfl) rfl _ _ 25 rfl wI.heap.size 9 i0 _ 16 Try.underlying25 hi hz0 hz1 hz2 rfl _ so.length _ rfl (own_ch HO.out ((Ch.refl no wr).alloc _) (fun _ _ => no_not _)) (some ⟨wr.heap.size, 0, none⟩) 1 [x] rfl HRX.out (by simp; unfold maxLen; omega) (by simp; omega) (by simp; omega) ?_; intro v9 w_v9 hown9 hgrow9 _; obtain ⟨A_v9, c_v9, h_v9⟩ := own_shape hown9; subst h_v9; have HO_v9 := Lib.hid hown9; have HC_v9 : Hid (Ch (fun k => wI.heap.size ≤ k) wr w_v9) := Lib.hid ((((Ch.refl _ wr).alloc _)).same ((grown_ch hgrow9).mono (fun k h => own_ge HO.out k h.symm))); clear hown9 hgrow9)
              go_roundw
              case rel => exact ⟨i + 1, by omega, by go_num, Lib.hid (by rw [HNX.out, HPR.out]; refine own_less ?_ hwI; rw [if_neg (by simp), List.length_append, List.map_append]; exact HO_v9.out), Lib.hid (HCI.out.then_ (HC.out.trans HC_v9.out (fun i hi h => by omega)))⟩
              case measure => simp [intOf]; omega
      · obtain ⟨j, rfl⟩ : ∃ j, i = a.length + j := ⟨i - a.length, by omega⟩
        have hjb : j < b.length := by omega
        obtain ⟨hi2, hxa⟩ := HPB.out j hjb
        obtain ⟨ad, had, p0, _⟩ := file_at (HB.out.ch HC.out) j hjb
        subst had
        rw [← hxa] at p0
        obtain ⟨x, hx⟩ : ∃ x, ps[a.length + j] = x := ⟨_, rfl⟩
        rw [hx] at p0 HNX HXZ
        obtain ⟨l0, hl0e⟩ : ∃ l0, putAll [] (ps.take (a.length + j)) = l0 := ⟨_, rfl⟩
        rw [hl0e] at HO HNX HLZ hll ⊢
        clear hx hxa hl0e
        obtain ⟨i, hij⟩ : ∃ i, a.length + j = i := ⟨_, rfl⟩
        have hji : j = i - a.length := by omega
        rw [hij] at HNX hk hlt hia ⊢
        rw [hji] at p0
        have hab : (i : Int) < (a.length : Int) + (b.length : Int) := by omega
        clear hij hi2
        go_wp2_with fail
        clear p0
        obtain ⟨wI, hwI⟩ : ∃ wI, wr = wI := ⟨_, rfl⟩
        rw [hwI] at HO HC ⊢
        clear hwI
        have HXI := Lib.hid (row_of_own HO.out)
        have HOI : Hid (OwnS wI wI.heap.size (.slice none 0 0) (putG x (l0.take 0)).1) := Lib.hid ⟨by simp [putG], .inl ⟨rfl, by simp [putG]⟩⟩
        have hl0 := HXI.out.len
        clear HO
        go_loopw [8, 9, 10] (fun o dn i wr => ∃ k : Nat, k ≤ l0.length ∧ i = .int .i64 k ∧ dn = .bool (putG x (l0.take k)).2 ∧ Hid (OwnS wr wI.heap.size o (putG x (l0.take k)).1) ∧ Hid (Ch no wI wr)) (fun _ _ i _ => l0.length - (intOf i).toNat)
        case atStart => exact ⟨0, by omega, rfl, rfl, HOI, Lib.hid (Ch.refl _ _)⟩
        case round =>
          clear HOI
          have HCI := HC
          clear HC
          obtain ⟨k, hk, rfl, rfl, HO, HC⟩ := hrel
          have hgl := (putG_len x (l0.take k)).2
          have hwz := HC.out.size
          by_cases hlt : k < l0.length
          · obtain ⟨ad, had0, p0⟩ := (HXI.out.ch HC.out).flat_at k hlt
            subst had0
            have HGN := Lib.hid (putG_next x l0 k hlt)
            have HYZ : Hid (l0[k].size ≤ 1000) := Lib.hid (HLZ.out _ (List.getElem_mem _))
            rw [List.length_take, Nat.min_eq_left (by omega)] at hgl
            obtain ⟨y, hy⟩ : ∃ y, l0[k] = y := ⟨_, rfl⟩
            replace p0 : wr.cell? (ad.add k) = some (.string y) := p0.trans (congrArg (fun z => some (Value.string z)) hy)
            rw [hy] at HGN HYZ
            have HYE := Lib.hid hy
            clear hy
            obtain ⟨s, hs⟩ : ∃ s, putG x (l0.take k) = s := ⟨_, rfl⟩
            rw [hs] at HGN HO hgl ⊢
            obtain ⟨so, sd⟩ := s
            clear hs
            obtain ⟨A0, c0, ho0⟩ := own_shape HO.out
            subst ho0
            have hso : so.length ≤ 2001 := by simp only at hgl; omega
            by_cases he : y = x
            · have hbe := beq_yes he
              have HGR : Hid (putG x (l0.take (k + 1)) = (so ++ [y], true)) := Lib.hid (by rw [HGN.out]; unfold putStep; simp [he])
              clear he HGN
              go_upto_region 19 with (fail)
              have HRX : Hid (El.str.Row (wr.alloc (.cells #[.string y] 9)) (some ⟨wr.heap.size, 0, none⟩) 1 [y]) := Lib.hid (row_of_own (own_one wr y 0 (Nat.zero_le _)))
              go_wp2_with (at_builtin; refine app_row (fun _ => rfl) rfl _ _ 25 rfl wI.heap.size 9 i0 _ 16 Try.underlying25 hi hz0 hz1 hz2 rfl _ so.length _ rfl (own_ch HO.out ((Ch.refl no wr).alloc _) (fun _ _ => no_not _)) (some ⟨wr.heap.size, 0, none⟩) 1 [y] rfl HRX.out (by simp; unfold maxLen; omega) (by simp; omega) (by simp; omega) ?_; intro v9 w_v9 hown9 hgrow9 _; obtain ⟨A_v9, c_v9, h_v9⟩ := own_shape hown9; subst h_v9; have HO_v9 := Lib.hid hown9; have HC_v9 : Hid (Ch (fun k => wI.heap.size ≤ k) wr w_v9) := Lib.hid ((((Ch.refl _ wr).alloc _)).same ((grown_ch hgrow9).mono (fun k h => own_ge HO.out k h.symm))); clear hown9 hgrow9)
              go_roundw
              case rel => exact ⟨k + 1, by omega, by go_num, by rw [HGR.out], Lib.hid (by rw [HGR.out]; unfold OwnS; simp only [List.length_append, List.map_append, List.append_assoc]; simpa [List.append_assoc] using HO_v9.out), Lib.hid (HC.out.trans HC_v9.out (fun i hi h => by omega))⟩
              case measure => simp [intOf]; omega
            · have hbe := beq_no he
              cases sd with
              | true =>
                have HGR : Hid (putG x (l0.take (k + 1)) = (so ++ [y], true)) := Lib.hid (by rw [HGN.out]; unfold putStep; simp)
                clear he HGN
                go_upto_region 19 with (fail)
                have HRX : Hid (El.str.Row (wr.alloc (.cells #[.string y] 9)) (some ⟨wr.heap.size, 0, none⟩) 1 [y]) := Lib.hid (row_of_own (own_one wr y 0 (Nat.zero_le _)))
                go_wp2_with (at_builtin; refine app_row (fun _ => rfl) rfl _ _ 25 rfl wI.heap.size 9 i0 _ 16 Try.underlying25 hi hz0 hz1 hz2 rfl _ so.length _ rfl (own_ch HO.out ((Ch.refl no wr).alloc _) (fun _ _ => no_not _)) (some ⟨wr.heap.size, 0, none⟩) 1 [y] rfl HRX.out (by simp; unfold maxLen; omega) (by simp; omega) (by simp; omega) ?_; intro v9 w_v9 hown9 hgrow9 _; obtain ⟨A_v9, c_v9, h_v9⟩ := own_shape hown9; subst h_v9; have HO_v9 := Lib.hid hown9; have HC_v9 : Hid (Ch (fun k => wI.heap.size ≤ k) wr w_v9) := Lib.hid ((((Ch.refl _ wr).alloc _)).same ((grown_ch hgrow9).mono (fun k h => own_ge HO.out k h.symm))); clear hown9 hgrow9)
                go_roundw
                case rel => exact ⟨k + 1, by omega, by go_num, by rw [HGR.out], Lib.hid (by rw [HGR.out]; unfold OwnS; simp only [List.length_append, List.map_append, List.append_assoc]; simpa [List.append_assoc] using HO_v9.out), Lib.hid (HC.out.trans HC_v9.out (fun i hi h => by omega))⟩
                case measure => simp [intOf]; omega
              | false =>
                obtain ⟨r, hr⟩ : ∃ r, less x y = r := ⟨_, rfl⟩
                have hsl := rless_of x y wr HXZ.out HYZ.out
                rw [hr] at hsl
                have HR := Lib.hid hr
                clear hr
                cases r with
                | true =>
                  have HGR : Hid (putG x (l0.take (k + 1)) = (so ++ [x] ++ [y], true)) := Lib.hid (by rw [HGN.out]; unfold putStep; simp [he, HR.out])
                  clear he HGN
                  go_wp2_with fail
                  refine hsl.mono ?_
                  rintro e w2 ⟨rfl, hc2⟩
                  have HC2 := Lib.hid (HC.out.then_ hc2)
                  have HO2 := Lib.hid (own_ch HO.out hc2 (fun _ _ => no_not _))
                  replace p0 := cell_ch hc2 p0
                  have hwz2 := HC2.out.size
                  clear hc2 hsl
                  go_upto_region 17 with (fail)
                  have HRX : Hid (El.str.Row (w2.alloc (.cells #[.string x] 9)) (some ⟨w2.heap.size, 0, none⟩) 1 [x]) := Lib.hid (row_of_own (own_one w2 x 0 (Nat.zero_le _)))
                  go_wp2_with (first | (at_builtin; refine app_row (fun _ => rfl) rfl _ _ 25 rfl wI.heap.size 9 i0 _ 16 Try.underlying25 hi hz0 hz1 hz2 rfl _ so.length _ rfl (own_ch HO2.out ((Ch.refl no w2).alloc _) (fun _ _ => no_not _)) (some ⟨w2.heap.size, 0, none⟩) 1 [x] rfl HRX.out (by simp; unfold maxLen; omega) (by simp; omega) (by simp; omega) ?_; intro v8 w_v8 hown9 hgrow9 _; obtain ⟨A_v8, c_v8, h_v8⟩ := own_shape hown9; subst h_v8; have HO_v8 := Lib.hid hown9; have HC_v8 : Hid (Ch (fun k => wI.heap.size ≤ k) w2 w_v8) := Lib.hid ((((Ch.refl _ w2).alloc _)).same ((grown_ch hgrow9).mono (fun k h => own_ge HO2.out k h.symm))); clear hown9 hgrow9; have HC8 : Hid (Ch no wI w_v8) := Lib.hid (HC2.out.trans HC_v8.out (fun i hi h => by omega)); clear p0; obtain ⟨ad', had, p0⟩ := (HXI.out.ch HC8.out).flat_at k hlt; cases had; replace p0 := p0.trans (congrArg (fun z => some (Value.string z)) HYE.out); have hwz8 := HC8.out.size; have HRY : Hid (El.str.Row (w_v8.alloc (.cells #[.string y] 9)) (some ⟨w_v8.heap.size, 0, none⟩) 1 [y]) := Lib.hid (row_of_own (own_one w_v8 y 0 (Nat.zero_le _)))) | (at_builtin; refine app_row (fun _ => rfl) rfl _ _ 25 rfl wI.heap.size 9 i0 _ 16 Try.underlying25 hi hz0 hz1 hz2 rfl _ (so.length + [x].length) _ rfl (own_ch HO_v8.out ((Ch.refl no w_v8).alloc _) (fun _ _ => no_not _)) (some ⟨w_v8.heap.size, 0, none⟩) 1 [y] rfl HRY.out (by simp; unfold maxLen; omega) (by simp; omega) (by simp; omega) ?_; intro v9 w_v9 hown9 hgrow9 _; obtain ⟨A_v9, c_v9, h_v9⟩ := own_shape hown9; subst h_v9; have HO_v9 := Lib.hid hown9; have HC_v9 : Hid (Ch (fun k => wI.heap.size ≤ k) w_v8 w_v9) := Lib.hid ((((Ch.refl _ w_v8).alloc _)).same ((grown_ch hgrow9).mono (fun k h => own_ge HO_v8.out k h.symm))); clear hown9 hgrow9))
                  go_roundw
                  case rel => exact ⟨k + 1, by omega, by go_num, by rw [HGR.out], Lib.hid (by rw [HGR.out]; unfold OwnS; simp only [List.length_append, List.map_append, List.append_assoc]; simpa [List.append_assoc] using HO_v9.out), Lib.hid (HC8.out.trans HC_v9.out (fun i hi h => by omega))⟩
                  case measure => simp [intOf]; omega
                | false =>
                  have HGR : Hid (putG x (l0.take (k + 1)) = (so ++ [y], false)) := Lib.hid (by rw [HGN.out]; unfold putStep; simp [he, HR.out])
                  clear he HGN
                  go_wp2_with fail
                  refine hsl.mono ?_
                  rintro e w2 ⟨rfl, hc2⟩
                  have HC2 := Lib.hid (HC.out.then_ hc2)
                  have HO2 := Lib.hid (own_ch HO.out hc2 (fun _ _ => no_not _))
                  replace p0 := cell_ch hc2 p0
                  have hwz2 := HC2.out.size
                  clear hc2 hsl
                  go_upto_region 19 with (fail)
                  have HRX : Hid (El.str.Row (w2.alloc (.cells #[.string y] 9)) (some ⟨w2.heap.size, 0, none⟩) 1 [y]) := Lib.hid (row_of_own (own_one w2 y 0 (Nat.zero_le _)))
                  go_wp2_with (at_builtin; refine app_row (fun _ => rfl) rfl _ _ 25 rfl wI.heap.size 9 i0 _ 16 Try.underlying25 hi hz0 hz1 hz2 rfl _ so.length _ rfl (own_ch HO2.out ((Ch.refl no w2).alloc _) (fun _ _ => no_not _)) (some ⟨w2.heap.size, 0, none⟩) 1 [y] rfl HRX.out (by simp; unfold maxLen; omega) (by simp; omega) (by simp; omega) ?_; intro v9 w_v9 hown9 hgrow9 _; obtain ⟨A_v9, c_v9, h_v9⟩ := own_shape hown9; subst h_v9; have HO_v9 := Lib.hid hown9; have HC_v9 : Hid (Ch (fun k => wI.heap.size ≤ k) w2 w_v9) := Lib.hid ((((Ch.refl _ w2).alloc _)).same ((grown_ch hgrow9).mono (fun k h => own_ge HO2.out k h.symm))); clear hown9 hgrow9)
                  go_roundw
                  case rel => exact ⟨k + 1, by omega, by go_num, by rw [HGR.out], Lib.hid (by rw [HGR.out]; unfold OwnS; simp only [List.length_append, List.map_append, List.append_assoc]; simpa [List.append_assoc] using HO_v9.out), Lib.hid (HC2.out.trans HC_v9.out (fun i hi h => by omega))⟩
                  case measure => simp [intOf]; omega
          · have HT : Hid (l0.take k = l0) := Lib.hid (by rw [List.take_of_length_le (by omega)])
            rw [HT.out] at HO hgl ⊢
            obtain ⟨s, hs⟩ : ∃ s, putG x l0 = s := ⟨_, rfl⟩
            have HPR : Hid (putR l0 x = if s.2 then s.1 else s.1 ++ [x]) := Lib.hid (by unfold putR; rw [hs])
            rw [hs] at HO hgl ⊢
            obtain ⟨so, sd⟩ := s
            clear hs
            obtain ⟨A0, c0, ho0⟩ := own_shape HO.out
            subst ho0
            have hso : so.length ≤ 2001 := by simp only at hgl; omega
            have hwI := HCI.out.size
            cases sd with
            | true =>
              go_wp2_with fail
              go_roundw
              case rel => exact ⟨i + 1, by omega, by go_num, Lib.hid (by rw [HNX.out, HPR.out]; exact own_less HO.out hwI), Lib.hid (HCI.out.then_ HC.out)⟩
              case measure => simp [intOf]; omega
            | false =>
              go_upto_region 21 with (fail)
              have HRX : Hid (El.str.Row (wr.alloc (.cells #[.string x] 9)) (some ⟨wr.heap.size, 0, none⟩) 1 [x]) := Lib.hid (row_of_own (own_one wr x 0 (Nat.zero_le _)))
              go_wp2_with (at_builtin; refine app_row (fun _ => rfl) rfl _ _ 25 rfl wI.heap.size 9 i0 _ 16 Try.underlying25 hi hz0 hz1 hz2 rfl _ so.length _ rfl (own_ch HO.out ((Ch.refl no wr).alloc _) (fun _ _ => no_not _)) (some ⟨wr.heap.size, 0, none⟩) 1 [x] rfl HRX.out (by simp; unfold maxLen; omega) (by simp; omega) (by simp; omega) ?_; intro v9 w_v9 hown9 hgrow9 _; obtain ⟨A_v9, c_v9, h_v9⟩ := own_shape hown9; subst h_v9; have HO_v9 := Lib.hid hown9; have HC_v9 : Hid (Ch (fun k => wI.heap.size ≤ k) wr w_v9) := Lib.hid ((((Ch.refl _ wr).alloc _)).same ((grown_ch hgrow9).mono (fun k h => own_ge HO.out k h.symm))); clear hown9 hgrow9)
              go_roundw
              case rel => exact ⟨i + 1, by omega, by go_num, Lib.hid (by rw [HNX.out, HPR.out]; refine own_less ?_ hwI; rw [if_neg (by simp), List.length_append, List.map_append]; exact HO_v9.out), Lib.hid (HCI.out.then_ (HC.out.trans HC_v9.out (fun i hi h => by omega)))⟩
              case measure => simp [intOf]; omega
    · obtain rfl : i = a.length + b.length := by omega
      have HT : Hid (ps.take (a.length + b.length) = ps) := Lib.hid (by rw [List.take_of_length_le (by have := HLP.out; omega)])
      rw [HT.out] at HO ⊢
      go_wp2_with fail
      go_ret
      exact ⟨_, rfl, by rw [HRP.out]; exact HO.out, HC.out⟩
end Go.Proofs.Ytekeiieefkgopaa.Ta
