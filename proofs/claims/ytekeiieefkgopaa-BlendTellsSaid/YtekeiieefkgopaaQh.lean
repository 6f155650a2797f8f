/- The document's answer: the edits between two lists. -/
import Derived.Test.YtekeiieefkgopaaQg
import Derived.Test.YtekeiieefkgopaaMi
import Derived.Test.YtekeiieefkgopaaMt
namespace Go.Proofs.Ytekeiieefkgopaa.Qh
open Go.RowKit Go.Proofs.Ytekeiieefkgopaa.Aa Go.Proofs.Ytekeiieefkgopaa.Vw Go.Proofs.Ytekeiieefkgopaa.Ma Go.Proofs.Ytekeiieefkgopaa.Mr Go.Proofs.Ytekeiieefkgopaa.Mb Go.Proofs.Ytekeiieefkgopaa.Mt Go.Proofs.Ytekeiieefkgopaa.Me Go.Proofs.Ytekeiieefkgopaa.Mf Go.Proofs.Ytekeiieefkgopaa.Mg Go.Proofs.Ytekeiieefkgopaa.Mh Go.Proofs.Ytekeiieefkgopaa.Mi Go.Proofs.Ytekeiieefkgopaa.Nb Go.Proofs.Ytekeiieefkgopaa.Qf Go.Proofs.Ytekeiieefkgopaa.Qg
set_option linter.unusedVariables false
set_option linter.unusedSimpArgs false

theorem cutS_lh (A : Option Addr) (c : Nat) (xs : List ByteArray) (f m : Nat) (h1 : f ≤ m) (hm : m ≤ xs.length) (hc : xs.length ≤ c) : ∃ A' : Option Addr, (∀ W : World, (Instr.slice 25 (.slice A xs.length c) (some (.int .i64 f)) (some (.int .i64 m)) none).run Try.prog W = .ok (.slice A' ((xs.take m).drop f).length (c - f)) W) ∧
      ∀ w : World, El.str.Row w A c xs → El.str.Row w A' (c - f) ((xs.take m).drop f) := by
  obtain ⟨i0, hi, hz0, hz1, hz2⟩ := info_parts infoStr
  obtain ⟨A', h1, h2⟩ := cut_lh (P := Try.prog) (d := El.str) 25 9 .i64 .i64 Try.underlying25 hi hz1 A c xs (f : Int) (m : Int) (by omega) (by omega) (by omega) hc
  exact ⟨A', h1, h2⟩
/-- May the walk from the front go on? -/
def goF (xs ys : List ByteArray) (f : Nat) : Bool := decide (f < xs.length ∧ f < ys.length ∧ xs[f]? = ys[f]?)
/-- .. and the walk from behind, m and n lines being left. -/
def goE (xs ys : List ByteArray) (f m n : Nat) : Bool := decide (f < m ∧ f < n ∧ xs[m - 1]? = ys[n - 1]?)

theorem add_none (a : Addr) : a.add 0 = a := by cases a; simp [Addr.add]
def lenV : Value → Nat
  | .slice _ n _ => n
  | _ => 0
theorem cutS_1 (A : Option Addr) (c : Nat) (a : ByteArray) (X : List ByteArray) : ∃ A' : Option Addr, (∀ W : World, (Instr.slice 25 (.slice A (X.length + 1) c) (some (.int .i64 1)) none none).run Try.prog W = .ok (.slice A' X.length (c - 1)) W) ∧ ∀ w : World, El.str.Row w A c (a :: X) → El.str.Row w A' (c - 1) X := by
  obtain ⟨A', h1, h2⟩ := cutS_l A c (a :: X) 1 (by simp)
  exact ⟨A', by simpa using h1, by simpa using h2⟩
/-- Between two rounds. -/
structure Rq (w0 w : World) (R : List EditP) (v : Value) (X Y : List ByteArray) (i k q : Nat) (o : Bool) (es : List EditP) : Prop where
  eo : EO w w0.heap.size v es
  ne : o = true → es ≠ []
  way : grp (Mg.way X Y) q o es = R
  bd : Bd es i k
  ch : Ch no w0 w
/-- Behind the opening of an edit. -/
structure Rq2 (w0 w : World) (R : List EditP) (X Y : List ByteArray) (g cap : Nat) (svs : Nat → Value) (i k q : Nat) (o : Bool) (es : List EditP) : Prop where
  eb : EB w w0.heap.size g cap (opened o q es) svs
  ne : 1 ≤ (opened o q es).length
  way : grp (Mg.way X Y) q o es = R
  bd : Bd es i k
  ch : Ch no w0 w
section
variable {w0 w w1 w' : World} {R : List EditP} {v v' : Value} {X Y X' Y' : List ByteArray} {g cap L i k q : Nat} {svs : Nat → Value} {o : Bool} {es : List EditP} {e : EditP} {s : ByteArray}
theorem Rq.drewN (h : Rq w0 w R v X Y i k q o es) (n : Nat) : Rq w0 (w.drewN n) R v X Y i k q o es := ⟨h.eo.ch ((Ch.refl no _).drewN _) (fun _ _ => no_not _), h.ne, h.way, h.bd, h.ch.drewN _⟩
theorem Rq.keep (h : Rq w0 w R v X Y i k q o es) (hw : Mg.way X Y = .keep :: Mg.way X' Y') : Rq w0 w R v X' Y' (i + 1) (k + 1) (q + 1) false es := by
  refine ⟨h.eo, (fun h => by cases h), ?_, ⟨by have := h.bd.1; omega, fun e he => by have := h.bd.2 e he; omega⟩, h.ch⟩
  have := h.way
  rw [hw] at this
  exact this
theorem Rq.open_ (h : Rq w0 w R v X Y i k q o es) (heo : EO w' w0.heap.size v' (opened o q es)) (hc : Ch no w0 w') :
    ∃ g cap L svs, (opened o q es).length = L + 1 ∧ v' = .slice (some ⟨g, 0, none⟩) (L + 1) cap ∧ Value.bool true = .bool true ∧ Hid (Rq2 w0 w' R X Y g cap svs i k q o es) := by
  obtain ⟨g, cap, L, svs, hL, rfl, heb⟩ := open_eb heo h.ne
  exact ⟨g, cap, L, svs, hL, rfl, rfl, ⟨heb, opened_ne h.ne, h.way, h.bd, hc⟩⟩
theorem Rq2.step (h : Rq2 w0 w R X Y g cap svs i k q o es) (hc : Ch no w w') : Rq2 w0 w' R X Y g cap svs i k q o es := ⟨h.eb.ch hc (fun _ _ => no_not _), h.ne, h.way, h.bd, h.ch.then_ hc⟩
theorem Rq2.drewN (h : Rq2 w0 w R X Y g cap svs i k q o es) (n : Nat) : Rq2 w0 (w.drewN n) R X Y g cap svs i k q o es := h.step ((Ch.refl no w).drewN n)
theorem Rq2.del (h : Rq2 w0 w R X Y g cap svs i k q o es) (hL : (opened o q es).length = L + 1) (he : (opened o q es)[L]? = some e) (hw : Mg.way X Y = .del :: Mg.way X' Y) :
    Rq w0 (w.setCell ⟨g, L * 3 + 1, none⟩ (.int .i64 (e.del + 1))) R (.slice (some ⟨g, 0, none⟩) (L + 1) cap) X' Y (i + 1) k (q + 1) true (lastDel (opened o q es)) := by
  have hl : (lastDel (opened o q es)).length = (opened o q es).length := by unfold lastDel; rw [List.length_modify]
  refine ⟨.inr ⟨g, cap, svs, by rw [hl, hL], h.eb.setDel L e hL.symm he _ rfl⟩, fun _ => last_ne hL hl, ?_, h.bd.del, h.ch.set (p := ⟨g, L * 3 + 1, none⟩) (.inr h.eb.ge) _⟩
  have := h.way
  rw [hw] at this
  exact this
theorem Rq2.ins (h : Rq2 w0 w R X Y g cap svs i k q o es) (hL : (opened o q es).length = L + 1) (he : (opened o q es)[L]? = some e) (hw : Mg.way X Y = .ins s :: Mg.way X Y')
    (hown : OwnS w1 w0.heap.size v' (e.ins ++ [s])) (hg : w.grownBy w1 (svs L).ownBlock) (hat' : v'.ownBlock = (svs L).ownBlock ∨ ∃ b, v'.ownBlock = some b ∧ w.heap.size ≤ b) :
    Rq w0 (w1.setCell ⟨g, L * 3 + 2, none⟩ v') R (.slice (some ⟨g, 0, none⟩) (L + 1) cap) X Y' i (k + 1) q true (lastIns (opened o q es) s) := by
  have hl : (lastIns (opened o q es) s).length = (opened o q es).length := by unfold lastIns; rw [List.length_modify]
  have hc1 : Ch no w0 w1 := Ch.grown_new h.ch hg (fun b hb => own_ge (h.eb.own L e he) b hb)
  refine ⟨.inr ⟨g, cap, _, by rw [hl, hL], h.eb.setIns L e hL.symm he s v' hown hg hat'⟩, fun _ => last_ne hL hl, ?_, h.bd.ins s, hc1.set (p := ⟨g, L * 3 + 2, none⟩) (.inr h.eb.ge) _⟩
  have := h.way
  rw [hw] at this
  exact this
end
theorem way_d1 (a : ByteArray) (X : List ByteArray) : way (a :: X) [] = .del :: way X [] := by rw [way]
theorem way_i1 (b : ByteArray) (Y : List ByteArray) : way [] (b :: Y) = .ins b :: way [] Y := by rw [way]
theorem way_k (a b : ByteArray) (X Y : List ByteArray) (h : a = b) : way (a :: X) (b :: Y) = .keep :: way X Y := by rw [way, if_pos h]
theorem way_d2 (a b : ByteArray) (X Y : List ByteArray) (h : a ≠ b) (ht : lcs (a :: X) Y ≤ lcs X (b :: Y)) : way (a :: X) (b :: Y) = .del :: way X (b :: Y) := by rw [way, if_neg h, if_pos ht]
theorem way_i2 (a b : ByteArray) (X Y : List ByteArray) (h : a ≠ b) (ht : ¬ lcs (a :: X) Y ≤ lcs X (b :: Y)) : way (a :: X) (b :: Y) = .ins b :: way (a :: X) Y := by rw [way, if_neg h, if_neg ht]

set_option maxRecDepth 100000 in
set_option maxHeartbeats 8000000 in
theorem refDiff_of (A B : Option Addr) (c d : Nat) (xs ys : List ByteArray) (w : World) (hx : El.str.Row w A c xs) (hy : El.str.Row w B d ys) (hn : xs.length ≤ 1000000) (hm : ys.length ≤ 1000000) :
    Calls Try.prog 50 #[.slice A xs.length c, .slice B ys.length d] w fun e w' => ∃ v, e = .returned v ∧ EO w' w.heap.size v (diffOf xs ys) ∧ Ch no w w' := by
  have HX := Lib.hid hx; have HY := Lib.hid hy
  have hcx := hx.le; have hcy := hy.le
  clear hx hy
  go_enter Try.func50, Try.ntmps50
  go_wp2_with fail
  go_loopw [5] (fun i wr => ∃ f : Nat, f ≤ xs.length ∧ f ≤ ys.length ∧ i = .int .i64 f ∧ (∀ j, j < f → sameAt xs ys j = true) ∧ Hid (Ch no w wr)) (fun i _ => xs.length - (intOf i).toNat)
  case atStart => exact ⟨0, by omega, by omega, rfl, fun j hj => by omega, Ch.refl _ _⟩
  case round =>
    obtain ⟨f, hf1, hf2, rfl, hs, HC⟩ := hrel
    have HS := Lib.hid hs; clear hs
    go_upto_region 2 with (fail)
    go_cut [35] (fun v wc => v = .bool (goF xs ys f) ∧ Hid (Ch no w wc))
    case first =>
      by_cases h1 : f < xs.length
      · obtain ⟨a, rfl, hca⟩ := (HX.out.ch HC.out).flat_at f h1
        by_cases h2 : f < ys.length
        · obtain ⟨b, rfl, hcb⟩ := (HY.out.ch HC.out).flat_at f h2
          by_cases he : xs[f] = ys[f]
          · have hbe := beq_yes he
            have HB : Hid (goF xs ys f = true) := by
              unfold goF; rw [List.getElem?_eq_getElem h1, List.getElem?_eq_getElem h2, he]; exact decide_eq_true ⟨h1, h2, rfl⟩
            clear he
            go_quiet (fail)
            go_wp2_with fail
            go_meet
            case rel => exact ⟨by rw [HB.out], HC.out.drewN _⟩
          · have hbe := beq_no he
            have HB : Hid (goF xs ys f = false) := by
              unfold goF; rw [List.getElem?_eq_getElem h1, List.getElem?_eq_getElem h2]; exact decide_eq_false (fun h => he (Option.some.inj h.2.2))
            clear he
            go_quiet (fail)
            go_wp2_with fail
            go_meet
            case rel => exact ⟨by rw [HB.out], HC.out.drewN _⟩
        · have HB : Hid (goF xs ys f = false) := decide_eq_false (fun h => h2 h.2.1)
          go_quiet (fail)
          go_wp2_with fail
          go_meet
          case rel => exact ⟨by rw [HB.out], HC.out.drewN _⟩
      · have HB : Hid (goF xs ys f = false) := decide_eq_false (fun h => h1 h.1)
        go_quiet (fail)
        go_wp2_with fail
        go_meet
        case rel => exact ⟨by rw [HB.out], HC.out.drewN _⟩
    case rest =>
      obtain ⟨rfl, HC⟩ := hcut
      by_cases hgo : goF xs ys f = true
      · rw [hgo]
        have hgo2 := of_decide_eq_true hgo
        clear hgo
        go_wp2_with fail
        go_roundw
        case rel => exact ⟨f + 1, by omega, by omega, by go_num, (fun j hj => by
          by_cases e : j = f
          · subst e; unfold sameAt; rw [hgo2.2.2]; simp
          · exact HS.out j (by omega)), HC⟩
        case measure => simp [intOf] <;> omega
      · have hgo' : goF xs ys f = false := by simpa using hgo
        rw [hgo']
        have HFE : Hid (frontN xs ys = f) := by
          refine firstNot_unique _ _ f (by omega) HS.out (fun h => ?_)
          have := of_decide_eq_false hgo'
          unfold sameAt
          exact decide_eq_false (fun he => this ⟨by omega, by omega, he⟩)
        clear hgo hgo' HS
        go_wp2_with fail
        go_loopw [6, 7] (fun v6 v7 wr => ∃ m n : Nat, f ≤ m ∧ m ≤ xs.length ∧ f ≤ n ∧ n ≤ ys.length ∧ xs.length + n = ys.length + m ∧ v6 = .int .i64 m ∧ v7 = .int .i64 n ∧ (∀ j, j < xs.length - m → xs[xs.length - 1 - j]? = ys[ys.length - 1 - j]?) ∧ Hid (Ch no w wr)) (fun v6 _ _ => (intOf v6).toNat)
        case atStart => exact ⟨xs.length, ys.length, hf1, Nat.le_refl _, hf2, Nat.le_refl _, by omega, rfl, rfl, fun j hj => by omega, HC⟩
        case round =>
          clear HC
          obtain ⟨m, n, hm1, hm2, hn1, hn2, hmn, rfl, rfl, hs, HC⟩ := hrel
          have HS := Lib.hid hs; clear hs
          have HMN := Lib.hid hmn; clear hmn
          go_upto_region 6 with (fail)
          go_cut [62] (fun v wc => v = .bool (goE xs ys f m n) ∧ Hid (Ch no w wc))
          case first =>
            by_cases h1 : f < m
            · have h1i : (f : Int) < (m : Int) := by omega
              have hwm : IntKind.i64.wrap ((m : Int) - 1) = ((m - 1 : Nat) : Int) := by rw [IntWalk.i64_in _ (by omega)]; omega
              have hm3 : m - 1 < xs.length := by omega
              have hm4 : ((m - 1 : Nat) : Int) < (xs.length : Int) := by omega
              obtain ⟨a, rfl, hca⟩ := (HX.out.ch HC.out).flat_at (m - 1) hm3
              by_cases h2 : f < n
              · have h2i : (f : Int) < (n : Int) := by omega
                have hwn : IntKind.i64.wrap ((n : Int) - 1) = ((n - 1 : Nat) : Int) := by rw [IntWalk.i64_in _ (by omega)]; omega
                have hn3 : n - 1 < ys.length := by omega
                have hn4 : ((n - 1 : Nat) : Int) < (ys.length : Int) := by omega
                obtain ⟨b, rfl, hcb⟩ := (HY.out.ch HC.out).flat_at (n - 1) hn3
                by_cases he : xs[m - 1] = ys[n - 1]
                · have hbe := beq_yes he
                  have HB : Hid (goE xs ys f m n = true) := by
                    unfold goE; rw [List.getElem?_eq_getElem hm3, List.getElem?_eq_getElem hn3, he]; exact decide_eq_true ⟨h1, h2, rfl⟩
                  clear he
                  go_quiet (fail)
                  go_wp2_with fail
                  go_meet
                  case rel => exact ⟨by rw [HB.out], HC.out.drewN _⟩
                · have hbe := beq_no he
                  have HB : Hid (goE xs ys f m n = false) := by
                    unfold goE; rw [List.getElem?_eq_getElem hm3, List.getElem?_eq_getElem hn3]; exact decide_eq_false (fun h => he (Option.some.inj h.2.2))
                  clear he
                  go_quiet (fail)
                  go_wp2_with fail
                  go_meet
                  case rel => exact ⟨by rw [HB.out], HC.out.drewN _⟩
              · have h2i : ¬ (f : Int) < (n : Int) := by omega
                have HB : Hid (goE xs ys f m n = false) := decide_eq_false (fun h => h2 h.2.1)
                go_quiet (fail)
                go_wp2_with fail
                go_meet
                case rel => exact ⟨by rw [HB.out], HC.out.drewN _⟩
            · have h1i : ¬ (f : Int) < (m : Int) := by omega
              have HB : Hid (goE xs ys f m n = false) := decide_eq_false (fun h => h1 h.1)
              go_quiet (fail)
              go_wp2_with fail
              go_meet
              case rel => exact ⟨by rw [HB.out], HC.out.drewN _⟩
          case rest =>
            obtain ⟨rfl, HC⟩ := hcut
            by_cases hgo : goE xs ys f m n = true
            · rw [hgo]
              have hgo2 := of_decide_eq_true hgo
              clear hgo
              have hg1 := hgo2.1
              have hg2 := hgo2.2.1
              go_wp2_with fail
              go_roundw
              case rel => exact ⟨m - 1, n - 1, by omega, by omega, by omega, by omega, by have := HMN.out; omega, by go_num, by go_num, (fun j hj => by
                by_cases e : j < xs.length - m
                · exact HS.out j e
                · have := HMN.out
                  rw [show xs.length - 1 - j = m - 1 by omega, show ys.length - 1 - j = n - 1 by omega]; exact hgo2.2.2), HC⟩
              case measure => simp [intOf] <;> omega
            · have hgo' : goE xs ys f m n = false := by simpa using hgo
              rw [hgo']
              have HEE : Hid (endN (xs.drop f) (ys.drop f) = xs.length - m) := by
                have hmn := HMN.out
                refine firstNot_unique _ _ _ (by rw [List.length_drop, List.length_drop]; omega) (fun j hj => ?_) (fun h => ?_)
                · unfold sameEnd
                  rw [List.getElem?_drop, List.getElem?_drop, List.length_drop, List.length_drop, show f + (xs.length - f - 1 - j) = xs.length - 1 - j by omega, show f + (ys.length - f - 1 - j) = ys.length - 1 - j by omega]
                  exact decide_eq_true (HS.out j hj)
                · rw [List.length_drop, List.length_drop] at h
                  have := of_decide_eq_false hgo'
                  unfold sameEnd
                  refine decide_eq_false (fun he => this ⟨by omega, by omega, ?_⟩)
                  rw [List.getElem?_drop, List.getElem?_drop, List.length_drop, List.length_drop, show f + (xs.length - f - 1 - (xs.length - m)) = m - 1 by omega, show f + (ys.length - f - 1 - (xs.length - m)) = n - 1 by omega] at he
                  exact he
              have HD : Hid (diffOf xs ys = midDiff f ((xs.take m).drop f) ((ys.take n).drop f)) := by
                have hmn := HMN.out
                unfold diffOf
                rw [HFE.out, HEE.out, List.drop_take, List.drop_take, List.length_drop, List.length_drop, show xs.length - f - (xs.length - m) = m - f by omega, show ys.length - f - (xs.length - m) = n - f by omega]
                exact Lib.hid rfl
              obtain ⟨Ax, hcutx, hrx⟩ := cutS_lh A c xs f m hm1 hm2 hcx
              obtain ⟨Ay, hcuty, hry⟩ := cutS_lh B d ys f n hn1 hn2 hcy
              have hlx : ((xs.take m).drop f).length ≤ 1000000 := by rw [List.length_drop, List.length_take]; omega
              have hly : ((ys.take n).drop f).length ≤ 1000000 := by rw [List.length_drop, List.length_take]; omega
              have HRX := Lib.hid (hrx w HX.out); have HRY := Lib.hid (hry w HY.out)
              clear hgo hgo' HS HMN HFE HEE hrx hry
              have HD2 : Hid (∀ R, midDiff f ((xs.take m).drop f) ((ys.take n).drop f) = R → diffOf xs ys = R) := fun R h => HD.out.trans h
              clear HD
              generalize hXe : (xs.take m).drop f = X at *
              generalize hYe : (ys.take n).drop f = Y at *
              clear hXe hYe
              obtain ⟨i0, hi, hz0, hz1, hz2⟩ := info_parts infoStr
              cases X with
              | nil =>
                cases Y with
                | nil =>
                  go_wp2_with fail
                  go_ret
                  exact ⟨_, rfl, by rw [HD2.out [] (by simp [midDiff])]; exact .inl ⟨rfl, rfl⟩, HC.out⟩
                | cons b Y =>
                  simp only [List.length_cons] at hly hcuty
                  have HM : Hid (midDiff f (([] : List ByteArray)) (b :: Y) = [⟨f, (([] : List ByteArray)).length, (b :: Y)⟩]) := by
                    show midDiff f (([] : List ByteArray)) (b :: Y) = _
                    unfold midDiff
                    rw [if_neg (by simp), if_pos (.inl rfl)]
                  skip
                  go_wp2_with (at_builtin; refine app_row (fun _ => rfl) rfl _ _ 25 rfl wc.heap.size 9 i0 _ 16 Try.underlying25 hi hz0 hz1 hz2 rfl (.slice (some ⟨wc.heap.size, 0, none⟩) 0 0) 0 [] rfl (own_empty _ _) Ay (d - f) (b :: Y) rfl ((HRY.out.ch HC.out).ch ((Ch.refl _ _).alloc _)) (by unfold maxLen; simp <;> omega) (by simp <;> omega) (by simp) ?_; intro v' w1 hown hgrow _; obtain ⟨A6, l6, c6, rfl⟩ := own_slice hown; have HCN := Lib.hid (Vw.Ch.grown_new ((Ch.refl no wc).alloc _) hgrow (fun k hk => by simp [Value.ownBlock] at hk; omega)))
                  go_ret
                  exact ⟨_, rfl, by rw [HD2.out _ HM.out]; exact eo_one (by simpa [OwnS] using own_less hown HC.out.size) f _ (Nat.le_trans HC.out.size HCN.out.size), (HC.out.then_ HCN.out).alloc _⟩
              | cons a X =>
                simp only [List.length_cons] at hlx hcutx
                cases Y with
                | nil =>
                  have HM : Hid (midDiff f (a :: X) (([] : List ByteArray)) = [⟨f, (a :: X).length, (([] : List ByteArray))⟩]) := by
                    show midDiff f (a :: X) (([] : List ByteArray)) = _
                    unfold midDiff
                    rw [if_neg (by simp), if_pos (.inr (.inl rfl))]
                  skip
                  go_wp2_with (at_builtin; refine app_row (fun _ => rfl) rfl _ _ 25 rfl wc.heap.size 9 i0 _ 16 Try.underlying25 hi hz0 hz1 hz2 rfl (.slice (some ⟨wc.heap.size, 0, none⟩) 0 0) 0 [] rfl (own_empty _ _) Ay (d - f) (([] : List ByteArray)) rfl ((HRY.out.ch HC.out).ch ((Ch.refl _ _).alloc _)) (by unfold maxLen; simp <;> omega) (by simp <;> omega) (by simp) ?_; intro v' w1 hown hgrow _; obtain ⟨A6, l6, c6, rfl⟩ := own_slice hown; have HCN := Lib.hid (Vw.Ch.grown_new ((Ch.refl no wc).alloc _) hgrow (fun k hk => by simp [Value.ownBlock] at hk; omega)))
                  go_ret
                  exact ⟨_, rfl, by rw [HD2.out _ HM.out]; exact eo_one (by simpa [OwnS] using own_less hown HC.out.size) f _ (Nat.le_trans HC.out.size HCN.out.size), (HC.out.then_ HCN.out).alloc _⟩
                | cons b Y =>
                  simp only [List.length_cons] at hly hcuty
                  have n1 : (((X.length : Int) + 1) == 0) = false := by rw [beq_eq_false_iff_ne]; omega
                  have n2 : (((Y.length : Int) + 1) == 0) = false := by rw [beq_eq_false_iff_ne]; omega
                  obtain ⟨p, hp⟩ : ∃ p, (X.length + 1) * (Y.length + 1) = p := ⟨_, rfl⟩
                  have hpb : p ≤ 1000000 * 1000000 := by rw [← hp]; exact Nat.mul_le_mul hlx hly
                  have hmul : IntKind.i64.wrap (((X.length : Int) + 1) * ((Y.length : Int) + 1)) = (p : Int) := by
                    have : (((X.length : Int) + 1) * ((Y.length : Int) + 1)) = (p : Int) := by rw [← hp]; push_cast; rfl
                    rw [this]; exact IntWalk.i64_in _ (by omega)
                  have hdv : 65536 / (Y.length + 1) < X.length + 1 ↔ 65536 < p := by rw [Nat.div_lt_iff_lt_mul (by omega), hp]
                  clear hp
                  by_cases hbig : 65536 < p
                  · have hbi : (65536 : Int) < (p : Int) := by omega
                    have HM : Hid (midDiff f (a :: X) (b :: Y) = [⟨f, (a :: X).length, (b :: Y)⟩]) := by
                      show midDiff f (a :: X) (b :: Y) = _
                      unfold midDiff
                      rw [if_neg (by simp), if_pos (.inr (.inr (hdv.2 hbig)))]
                    clear hdv hbig hpb
                    go_wp2_with (at_builtin; refine app_row (fun _ => rfl) rfl _ _ 25 rfl wc.heap.size 9 i0 _ 16 Try.underlying25 hi hz0 hz1 hz2 rfl (.slice (some ⟨wc.heap.size, 0, none⟩) 0 0) 0 [] rfl (own_empty _ _) Ay (d - f) (b :: Y) rfl ((HRY.out.ch HC.out).ch ((Ch.refl _ _).alloc _)) (by unfold maxLen; simp <;> omega) (by simp <;> omega) (by simp) ?_; intro v' w1 hown hgrow _; obtain ⟨A6, l6, c6, rfl⟩ := own_slice hown; have HCN := Lib.hid (Vw.Ch.grown_new ((Ch.refl no wc).alloc _) hgrow (fun k hk => by simp [Value.ownBlock] at hk; omega)))
                    go_ret
                    exact ⟨_, rfl, by rw [HD2.out _ HM.out]; exact eo_one (by simpa [OwnS] using own_less hown HC.out.size) f _ (Nat.le_trans HC.out.size HCN.out.size), (HC.out.then_ HCN.out).alloc _⟩
                  · have hbi : ¬ (65536 : Int) < (p : Int) := by omega
                    have HM : Hid (midDiff f (a :: X) (b :: Y) = grp (way (a :: X) (b :: Y)) f false []) := by
                      show midDiff f (a :: X) (b :: Y) = _
                      unfold midDiff
                      rw [if_neg (by simp), if_neg (fun h => h.elim (fun h => by cases h) (fun h => h.elim (fun h => by cases h) (fun h => hbig (hdv.1 h))))]
                    clear hdv hbig hpb
                    go_wp2_with fail
                    have HF : Hid (diffOf xs ys = grp (way (a :: X) (b :: Y)) f false []) := HD2.out _ HM.out
                    have HR : Hid (Rq w wc (grp (way (a :: X) (b :: Y)) f false []) (.slice none 0 0) (a :: X) (b :: Y) 0 0 (f + 0) false []) := ⟨.inl ⟨rfl, rfl⟩, (fun h => by cases h), rfl, ⟨by simp, by simp⟩, HC.out⟩
                    generalize grp (way (a :: X) (b :: Y)) f false [] = R at HF HR
                    clear hn1 hn2 hm1 hm2 hcutx hcuty n1 n2 hmul hbi HM HD2 HC HX HY hcx hcy
                    go_loopw [8, 9, 10, 11, 12] (fun v8 v9 v10 v11 v12 wr => ∃ (X Y : List ByteArray) (Ax Ay : Option Addr) (cx cy i k : Nat) (o : Bool) (es : List EditP), i + X.length ≤ 1000000 ∧ k + Y.length ≤ 1000000 ∧ v8 = .slice Ax X.length cx ∧ v9 = .slice Ay Y.length cy ∧ v11 = .bool o ∧ v12 = .int .i64 ((f + i : Nat) : Int) ∧ Hid (El.str.Row w Ax cx X) ∧ Hid (El.str.Row w Ay cy Y) ∧ Hid (Rq w wr R v10 X Y i k (f + i) o es)) (fun v8 v9 _ _ _ _ => lenV v8 + lenV v9)
                    case atStart => exact ⟨a :: X, b :: Y, Ax, Ay, c - f, d - f, 0, 0, false, [], by simp; omega, by simp; omega, rfl, rfl, rfl, rfl, HRX, HRY, HR⟩
                    case round =>
                      clear HR HRX HRY hlx hly
                      obtain ⟨X, Y, Ax, Ay, cx, cy, i, k, o, es, hlx, hly, rfl, rfl, rfl, rfl, HRX, HRY, HR⟩ := hrel
                      cases X with
                      | nil =>
                        cases Y with
                        | nil =>
                          go_wp2_with fail
                          go_ret
                          refine ⟨_, rfl, ?_, HR.out.ch⟩
                          have h := HR.out.way
                          rw [show way [] [] = [] by simp [way]] at h
                          have he := HR.out.eo
                          rw [HF.out, ← h]
                          exact he
                        | cons b Y =>
                          simp only [List.length_cons] at hly
                          have HW := Lib.hid (way_i1 b Y)
                          go_wp2_with fail
                          go_quiet (fail)
                          go_upto_if 140 with (fail)
                          refine wp_world (fun W => Hid (Rq w W R _ (([] : List ByteArray)) (b :: Y) i k (f + i) o es)) (HR.out.drewN _) ?_
                          intro W1 HR1
                          clear HR
                          try clear hca hcb hbe
                          go_cut [10, 11] (fun v10 v11 wc => ∃ (g cap L : Nat) (svs : Nat → Value), (opened o (f + i) es).length = L + 1 ∧ v10 = .slice (some ⟨g, 0, none⟩) (L + 1 : Nat) cap ∧ v11 = .bool true ∧ Hid (Rq2 w wc R (([] : List ByteArray)) (b :: Y) g cap svs i k (f + i) o es))
                          case first =>
                            cases o with
                            | true =>
                              go_wp2_with fail
                              go_meet
                              case rel => exact HR1.out.open_ HR1.out.eo HR1.out.ch
                            | false =>
                              have hbl := HR1.out.bd.1
                              go_wp2_with (at_builtin; refine app_edit rfl _ _ rfl w.heap.size _ es HR1.out.eo rfl _ (f + i) rfl rfl (by omega) HR1.out.ch.size ?_; intro v' w2 heo hch)
                              go_meet
                              case rel => exact HR1.out.open_ heo (hch HR1.out.ch (Nat.le_refl _))
                          case rest =>
                            obtain ⟨g, cap, L, svs, hL, rfl, rfl, HR2⟩ := hcut
                            obtain ⟨e, he1⟩ : ∃ e, (opened o (f + i) es)[L]? = some e := ⟨_, List.getElem?_eq_getElem (by omega)⟩
                            have hbd := (HR2.out.bd.opened (o := o) (p := f + i)).2 e (List.mem_of_getElem? he1)
                            have HL := Lib.hid hL; have HE1 := Lib.hid he1
                            have hinl := hbd.1
                            have hdel := hbd.2
                            have hLb : L ≤ 2000000 := by have := (HR2.out.bd.opened (o := o) (p := f + i)).1; omega
                            have hLi : (0 : Int) ≤ (L : Int) := by omega
                            clear hL he1 hbd HR1
                            obtain ⟨_, hci, _, hfi⟩ := HR2.out.eb.cellDel L e HE1.out
                            obtain ⟨A1, hcut1, hrow1⟩ := cutS_1 Ay cy b Y
                            have HRY1 := Lib.hid (hrow1 _ HRY.out)
                            obtain ⟨a1, ea, hcb1⟩ := HRY.out.flat_at 0 (by simp)
                            cases ea
                            have hcb := cell_ch HR2.out.ch hcb1
                            simp only [List.getElem_cons_zero] at hcb
                            have hcb0 := hcb
                            rw [add_none] at hcb0
                            have HO := Lib.hid (HR2.out.eb.own L e HE1.out)
                            have HA := Lib.hid (HR2.out.eb.apart L e HE1.out)
                            have hgl : g < wc.heap.size := World.block_lt_of_cell? wc _ hci
                            have hbl := World.block_lt_of_cell? wc _ hcb
                            have hsz := HR2.out.ch.size
                            obtain ⟨i0, hi, hz0, hz1, hz2⟩ := info_parts infoStr
                            have HI := Lib.hid hi; have HZ0 := Lib.hid hz0; have HZ1 := Lib.hid hz1; have HZ2 := Lib.hid hz2
                            clear hi hz0 hz1 hz2 hcb1 hrow1
                            go_upto_region 35 with (fail)
                            have hL1 : (L : Int) < (L : Int) + 1 := by omega
                            have hL2 : (0 : Int) < (Y.length : Int) + 1 := by omega
                            go_region_law (refine step_append_lies _ (by rfl) _ _ _ (by rfl) w.heap.size 9 i0 _ 1 16 Try.underlying25 HI.out HZ0.out HZ1.out HZ2.out rfl (by omega) (svs L) e.ins.length (e.ins.map Value.string) (by rfl) (own_ch HO.out ((Ch.refl no _).alloc _).drew (fun _ _ => no_not _)) ⟨wc.heap.size, 0, none⟩ 1 1 [.string b] (by rfl) (by rfl) (World.news_of_block (cs := #[.string b]) (t := 9) (fr := (0, 0)) (heap_alloc_new wc _)) (by simp [Value.oneCell']) (by omega) (by unfold maxLen; omega) (by omega) (by simp; omega) (wc.heap.size + 1) (by simp) ?_; intro gg cap2 w3 hown1 hgrow hat hlt; have hc3 : w3.cell? ⟨g, L * 3 + 2, none⟩ = some (svs L) := (hgrow.cell_far ⟨g, L * 3 + 2, none⟩ (by simp; omega) (Ne.symm HA.out)).trans (cell_ch (((Ch.refl no wc).alloc _).drew) hci); have hf3 : w3.frozen? ⟨g, L * 3 + 2, none⟩ = false := (hgrow.frozen_far ⟨g, L * 3 + 2, none⟩ (by simp; omega) (Ne.symm HA.out)).trans (frz_ch (((Ch.refl no wc).alloc _).drew) hgl hfi))
                            all_goals
                              go_wp2_with fail
                              go_roundw
                              case rel => exact ⟨[], Y, _, A1, cx, cy - 1, i, k + 1, true, _, by first | omega | (simp; omega), by omega, rfl, rfl, rfl, rfl, HRX, HRY1, (HR2.out.step ((Ch.refl no wc).alloc _).drew).ins HL.out HE1.out HW.out (by simpa [OwnS] using hown1) hgrow (hat.elim (fun h => .inl h.symm) (fun h => .inr ⟨_, rfl, by simp; omega⟩))⟩
                              case measure => simp [lenV] <;> omega
                      | cons a X =>
                        simp only [List.length_cons] at hlx
                        cases Y with
                        | nil =>
                          have HW := Lib.hid (way_d1 a X)
                          go_wp2_with fail
                          go_quiet (fail)
                          go_upto_if 140 with (fail)
                          refine wp_world (fun W => Hid (Rq w W R _ (a :: X) (([] : List ByteArray)) i k (f + i) o es)) (HR.out.drewN _) ?_
                          intro W1 HR1
                          clear HR
                          try clear hca hcb hbe
                          go_cut [10, 11] (fun v10 v11 wc => ∃ (g cap L : Nat) (svs : Nat → Value), (opened o (f + i) es).length = L + 1 ∧ v10 = .slice (some ⟨g, 0, none⟩) (L + 1 : Nat) cap ∧ v11 = .bool true ∧ Hid (Rq2 w wc R (a :: X) (([] : List ByteArray)) g cap svs i k (f + i) o es))
                          case first =>
                            cases o with
                            | true =>
                              go_wp2_with fail
                              go_meet
                              case rel => exact HR1.out.open_ HR1.out.eo HR1.out.ch
                            | false =>
                              have hbl := HR1.out.bd.1
                              go_wp2_with (at_builtin; refine app_edit rfl _ _ rfl w.heap.size _ es HR1.out.eo rfl _ (f + i) rfl rfl (by omega) HR1.out.ch.size ?_; intro v' w2 heo hch)
                              go_meet
                              case rel => exact HR1.out.open_ heo (hch HR1.out.ch (Nat.le_refl _))
                          case rest =>
                            obtain ⟨g, cap, L, svs, hL, rfl, rfl, HR2⟩ := hcut
                            obtain ⟨e, he1⟩ : ∃ e, (opened o (f + i) es)[L]? = some e := ⟨_, List.getElem?_eq_getElem (by omega)⟩
                            have hbd := (HR2.out.bd.opened (o := o) (p := f + i)).2 e (List.mem_of_getElem? he1)
                            have HL := Lib.hid hL; have HE1 := Lib.hid he1
                            have hinl := hbd.1
                            have hdel := hbd.2
                            have hLb : L ≤ 2000000 := by have := (HR2.out.bd.opened (o := o) (p := f + i)).1; omega
                            have hLi : (0 : Int) ≤ (L : Int) := by omega
                            clear hL he1 hbd HR1
                            obtain ⟨hcd, hci, hfd, hfi⟩ := HR2.out.eb.cellDel L e HE1.out
                            obtain ⟨A1, hcut1, hrow1⟩ := cutS_1 Ax cx a X
                            have HRX1 := Lib.hid (hrow1 _ HRX.out)
                            clear hrow1 hci hfi
                            go_wp2_with fail
                            go_roundw
                            case rel => exact ⟨X, [], A1, _, cx - 1, cy, i + 1, k, true, _, by omega, by first | omega | (simp; omega), rfl, rfl, rfl, by go_num, HRX1, HRY, HR2.out.del HL.out HE1.out HW.out⟩
                            case measure => simp [lenV] <;> omega
                        | cons b Y =>
                          simp only [List.length_cons] at hly
                          obtain ⟨aa, rfl, hca⟩ := (HRX.out.ch HR.out.ch).flat_at 0 (by simp)
                          obtain ⟨ab, rfl, hcb⟩ := (HRY.out.ch HR.out.ch).flat_at 0 (by simp)
                          simp only [List.getElem_cons_zero, add_none] at hca hcb
                          obtain ⟨A3, hcut3, hrow3⟩ := cutS_1 (some aa) cx a X
                          obtain ⟨A4, hcut4, hrow4⟩ := cutS_1 (some ab) cy b Y
                          have HRX3 := Lib.hid (hrow3 _ HRX.out)
                          have HRY4 := Lib.hid (hrow4 _ HRY.out)
                          clear hrow3 hrow4
                          by_cases he : a = b
                          · have hbe := beq_yes he
                            have HW := Lib.hid (way_k a b X Y he)
                            clear he
                            go_wp2_with fail
                            go_quiet (fail)
                            go_wp2_with fail
                            go_roundw
                            case rel => exact ⟨X, Y, A3, A4, cx - 1, cy - 1, i + 1, k + 1, false, es, by omega, by omega, rfl, rfl, rfl, by go_num, HRX3, HRY4, (HR.out.drewN _).keep HW.out⟩
                            case measure => simp [lenV] <;> omega
                          · have hbe := beq_no he
                            have HNE := Lib.hid he
                            clear he
                            go_wp2_with fail
                            go_quiet (fail)
                            go_upto_if 140 with (fail)
                            refine wp_world (fun W => Hid (Rq w W R _ (a :: X) (b :: Y) i k (f + i) o es)) (HR.out.drewN _) ?_
                            intro W1 HR1
                            clear HR
                            try clear hca hcb hbe
                            go_cut [10, 11] (fun v10 v11 wc => ∃ (g cap L : Nat) (svs : Nat → Value), (opened o (f + i) es).length = L + 1 ∧ v10 = .slice (some ⟨g, 0, none⟩) (L + 1 : Nat) cap ∧ v11 = .bool true ∧ Hid (Rq2 w wc R (a :: X) (b :: Y) g cap svs i k (f + i) o es))
                            case first =>
                              cases o with
                              | true =>
                                go_wp2_with fail
                                go_meet
                                case rel => exact HR1.out.open_ HR1.out.eo HR1.out.ch
                              | false =>
                                have hbl := HR1.out.bd.1
                                go_wp2_with (at_builtin; refine app_edit rfl _ _ rfl w.heap.size _ es HR1.out.eo rfl _ (f + i) rfl rfl (by omega) HR1.out.ch.size ?_; intro v' w2 heo hch)
                                go_meet
                                case rel => exact HR1.out.open_ heo (hch HR1.out.ch (Nat.le_refl _))
                            case rest =>
                              obtain ⟨g, cap, L, svs, hL, rfl, rfl, HR2⟩ := hcut
                              obtain ⟨e, he1⟩ : ∃ e, (opened o (f + i) es)[L]? = some e := ⟨_, List.getElem?_eq_getElem (by omega)⟩
                              have hbd := (HR2.out.bd.opened (o := o) (p := f + i)).2 e (List.mem_of_getElem? he1)
                              have HL := Lib.hid hL; have HE1 := Lib.hid he1
                              have hinl := hbd.1
                              have hdel := hbd.2
                              have hLb : L ≤ 2000000 := by have := (HR2.out.bd.opened (o := o) (p := f + i)).1; omega
                              have hLi : (0 : Int) ≤ (L : Int) := by omega
                              clear hL he1 hbd HR1
                              have HCg := Lib.hid HR2.out.ch
                              go_upto_region 29 with (fail)
                              go_cut [13] (fun v13 wd => v13 = .bool (decide (lcs (a :: X) Y ≤ lcs X (b :: Y))) ∧ Hid (Rq2 w wd R (a :: X) (b :: Y) g cap svs i k (f + i) o es))
                              case first =>
                                refine wp_region_tail (G := gds [Gd.is ?r29v0, Gd.is ?r29v1, Gd.is ?r29v2, Gd.is (.int .i64 (lcs X (b :: Y) : Nat)), Gd.is ?r29v4, Gd.is ?r29v5, Gd.is ?r29v6, Gd.is (.int .i64 (lcs (a :: X) Y : Nat)), Gd.is ?r29v8]) 9 (by kernel_rfl) (by kernel_rfl) rfl (by kernel_rfl) gds_st ?obl29 ?fin29
                                case obl29 =>
                                  simp only [Obls, and_true, List.take_succ_cons, List.take_zero]
                                  refine ⟨?_, ?_, ?_, ?_, ?_, ?_, ?_, ?_, ?_⟩
                                  · intro vs W hW hd
                                    simp only [fill, List.setIfInBounds_toArray, List.set_cons_zero, List.set_cons_succ]
                                    clear hd
                                    go_wp2_with (fail)
                                    refine ⟨rfl, rfl, Ch.refl _ _, gds_is rfl ?_⟩
                                    (conv => lhs; whnf)
                                  · intro vs W hW hd
                                    simp only [fill, List.setIfInBounds_toArray, List.set_cons_zero, List.set_cons_succ]
                                    have d0 := gds_at rfl (hd ⟨0, .data⟩ (by simp) rfl)
                                    rw [d0]
                                    clear hd d0
                                    go_wp2_with (fail)
                                    refine ⟨rfl, rfl, Ch.refl _ _, gds_is rfl ?_⟩
                                    (conv => lhs; whnf)
                                  · intro vs W hW hd
                                    simp only [fill, List.setIfInBounds_toArray, List.set_cons_zero, List.set_cons_succ]
                                    clear hd
                                    go_wp2_with (fail)
                                    refine ⟨rfl, rfl, Ch.refl _ _, gds_is rfl ?_⟩
                                    (conv => lhs; whnf)
                                  · intro vs W hW hd
                                    simp only [fill, List.setIfInBounds_toArray, List.set_cons_zero, List.set_cons_succ]
                                    have d1 := gds_at rfl (hd ⟨1, .data⟩ (by simp) rfl)
                                    have d2 := gds_at rfl (hd ⟨2, .data⟩ (by simp) rfl)
                                    rw [d1, d2]
                                    clear hd d1 d2
                                    have hWW := (Ch.refl no wc).drew.same hW
                                    go_wp2_with (refine (common_of _ _ _ _ X (b :: Y) W (HRX3.out.ch (HCg.out.then_ hWW)) (HRY.out.ch (HCg.out.then_ hWW)) (by omega) (by simp; omega)).mono ?_; rintro e w2 ⟨rfl, hch⟩)
                                    exact ⟨rfl, rfl, hch, gds_is rfl rfl⟩
                                  · intro vs W hW hd
                                    simp only [fill, List.setIfInBounds_toArray, List.set_cons_zero, List.set_cons_succ]
                                    clear hd
                                    go_wp2_with (fail)
                                    refine ⟨rfl, rfl, Ch.refl _ _, gds_is rfl ?_⟩
                                    (conv => lhs; whnf)
                                  · intro vs W hW hd
                                    simp only [fill, List.setIfInBounds_toArray, List.set_cons_zero, List.set_cons_succ]
                                    clear hd
                                    go_wp2_with (fail)
                                    refine ⟨rfl, rfl, Ch.refl _ _, gds_is rfl ?_⟩
                                    (conv => lhs; whnf)
                                  · intro vs W hW hd
                                    simp only [fill, List.setIfInBounds_toArray, List.set_cons_zero, List.set_cons_succ]
                                    have d5 := gds_at rfl (hd ⟨5, .data⟩ (by simp) rfl)
                                    rw [d5]
                                    clear hd d5
                                    go_wp2_with (fail)
                                    refine ⟨rfl, rfl, Ch.refl _ _, gds_is rfl ?_⟩
                                    (conv => lhs; whnf)
                                  · intro vs W hW hd
                                    simp only [fill, List.setIfInBounds_toArray, List.set_cons_zero, List.set_cons_succ]
                                    have d4 := gds_at rfl (hd ⟨4, .data⟩ (by simp) rfl)
                                    have d6 := gds_at rfl (hd ⟨6, .data⟩ (by simp) rfl)
                                    rw [d4, d6]
                                    clear hd d4 d6
                                    have hWW := (Ch.refl no wc).drew.same hW
                                    go_wp2_with (refine (common_of _ _ _ _ (a :: X) Y W (HRX.out.ch (HCg.out.then_ hWW)) (HRY4.out.ch (HCg.out.then_ hWW)) (by simp; omega) (by omega)).mono ?_; rintro e w2 ⟨rfl, hch⟩)
                                    exact ⟨rfl, rfl, hch, gds_is rfl rfl⟩
                                  · intro vs W hW hd
                                    simp only [fill, List.setIfInBounds_toArray, List.set_cons_zero, List.set_cons_succ]
                                    have d3 := gds_at rfl (hd ⟨3, .data⟩ (by simp) rfl)
                                    have d7 := gds_at rfl (hd ⟨7, .data⟩ (by simp) rfl)
                                    rw [d3, d7]
                                    clear hd d3 d7
                                    go_wp2_with (fail)
                                    refine ⟨rfl, rfl, Ch.refl _ _, gds_is rfl ?_⟩
                                    (conv => lhs; whnf)
                                case fin29 =>
                                  intro vs W hW hd
                                  simp only [fill, List.setIfInBounds_toArray, List.set_cons_zero, List.set_cons_succ, List.take_succ_cons, List.take_zero, List.drop_succ_cons, List.drop_zero]
                                  have d0 := gds_at rfl (hd 0 (by omega))
                                  have d1 := gds_at rfl (hd 1 (by omega))
                                  have d2 := gds_at rfl (hd 2 (by omega))
                                  have d3 := gds_at rfl (hd 3 (by omega))
                                  have d4 := gds_at rfl (hd 4 (by omega))
                                  have d5 := gds_at rfl (hd 5 (by omega))
                                  have d6 := gds_at rfl (hd 6 (by omega))
                                  have d7 := gds_at rfl (hd 7 (by omega))
                                  have d8 := gds_at rfl (hd 8 (by omega))
                                  rw [d0, d1, d2, d3, d4, d5, d6, d7, d8]
                                  clear hd d0 d1 d2 d3 d4 d5 d6 d7 d8
                                  go_wp2_with fail
                                  go_meet
                                  case rel => exact ⟨by congr 1 <;> simp, HR2.out.step ((Ch.refl no wc).drew.same hW)⟩
                              case rest =>
                                obtain ⟨rfl, HR3⟩ := hcut
                                clear HCg HR2 hcut3 hcut4
                                by_cases ht : lcs (a :: X) Y ≤ lcs X (b :: Y)
                                · rw [decide_eq_true ht]
                                  have HW := Lib.hid (way_d2 a b X Y HNE.out ht)
                                  clear ht
                                  obtain ⟨hcd, hci, hfd, hfi⟩ := HR3.out.eb.cellDel L e HE1.out
                                  obtain ⟨A1, hcut1, hrow1⟩ := cutS_1 (some aa) cx a X
                                  have HRX1 := Lib.hid (hrow1 _ HRX.out)
                                  clear hrow1 hci hfi
                                  go_wp2_with fail
                                  go_roundw
                                  case rel => exact ⟨X, b :: Y, A1, _, cx - 1, cy, i + 1, k, true, _, by omega, by first | omega | (simp; omega), rfl, rfl, rfl, by go_num, HRX1, HRY, HR3.out.del HL.out HE1.out HW.out⟩
                                  case measure => simp [lenV] <;> omega
                                · rw [decide_eq_false ht]
                                  have HW := Lib.hid (way_i2 a b X Y HNE.out ht)
                                  clear ht
                                  obtain ⟨_, hci, _, hfi⟩ := HR3.out.eb.cellDel L e HE1.out
                                  obtain ⟨A1, hcut1, hrow1⟩ := cutS_1 (some ab) cy b Y
                                  have HRY1 := Lib.hid (hrow1 _ HRY.out)
                                  obtain ⟨a1, ea, hcb1⟩ := HRY.out.flat_at 0 (by simp)
                                  cases ea
                                  have hcb := cell_ch HR3.out.ch hcb1
                                  simp only [List.getElem_cons_zero] at hcb
                                  have hcb0 := hcb
                                  rw [add_none] at hcb0
                                  have HO := Lib.hid (HR3.out.eb.own L e HE1.out)
                                  have HA := Lib.hid (HR3.out.eb.apart L e HE1.out)
                                  have hgl : g < wc.heap.size := World.block_lt_of_cell? wc _ hci
                                  have hbl := World.block_lt_of_cell? wc _ hcb
                                  have hsz := HR3.out.ch.size
                                  obtain ⟨i0, hi, hz0, hz1, hz2⟩ := info_parts infoStr
                                  have HI := Lib.hid hi; have HZ0 := Lib.hid hz0; have HZ1 := Lib.hid hz1; have HZ2 := Lib.hid hz2
                                  clear hi hz0 hz1 hz2 hcb1 hrow1
                                  go_upto_region 35 with (fail)
                                  have hL1 : (L : Int) < (L : Int) + 1 := by omega
                                  have hL2 : (0 : Int) < (Y.length : Int) + 1 := by omega
                                  go_region_law (refine step_append_lies _ (by rfl) _ _ _ (by rfl) w.heap.size 9 i0 _ 1 16 Try.underlying25 HI.out HZ0.out HZ1.out HZ2.out rfl (by omega) (svs L) e.ins.length (e.ins.map Value.string) (by rfl) (own_ch HO.out ((Ch.refl no _).alloc _).drew (fun _ _ => no_not _)) ⟨wc.heap.size, 0, none⟩ 1 1 [.string b] (by rfl) (by rfl) (World.news_of_block (cs := #[.string b]) (t := 9) (fr := (0, 0)) (heap_alloc_new wc _)) (by simp [Value.oneCell']) (by omega) (by unfold maxLen; omega) (by omega) (by simp; omega) (wc.heap.size + 1) (by simp) ?_; intro gg cap2 w3 hown1 hgrow hat hlt; have hc3 : w3.cell? ⟨g, L * 3 + 2, none⟩ = some (svs L) := (hgrow.cell_far ⟨g, L * 3 + 2, none⟩ (by simp; omega) (Ne.symm HA.out)).trans (cell_ch (((Ch.refl no wc).alloc _).drew) hci); have hf3 : w3.frozen? ⟨g, L * 3 + 2, none⟩ = false := (hgrow.frozen_far ⟨g, L * 3 + 2, none⟩ (by simp; omega) (Ne.symm HA.out)).trans (frz_ch (((Ch.refl no wc).alloc _).drew) hgl hfi))
                                  all_goals
                                    go_wp2_with fail
                                    go_roundw
                                    case rel => exact ⟨a :: X, Y, _, A1, cx, cy - 1, i, k + 1, true, _, by first | omega | (simp; omega), by omega, rfl, rfl, rfl, rfl, HRX, HRY1, (HR3.out.step ((Ch.refl no wc).alloc _).drew).ins HL.out HE1.out HW.out (by simpa [OwnS] using hown1) hgrow (hat.elim (fun h => .inl h.symm) (fun h => .inr ⟨_, rfl, by simp; omega⟩))⟩
                                    case measure => simp [lenV] <;> omega
end Go.Proofs.Ytekeiieefkgopaa.Qh
