/- The tellers of lines, by kind. -/
import Derived.Test.YtekeiieefkgopaaDoorMc
import Derived.Test.YtekeiieefkgopaaDoorMp
import Derived.Maps.Own
namespace Go.Proofs.YtekeiieefkgopaaDoor.Md
open Go.RowKit Go.Proofs.YtekeiieefkgopaaDoor.Aa Go.Proofs.YtekeiieefkgopaaDoor.Vw Go.Proofs.YtekeiieefkgopaaDoor.Ma Go.Proofs.YtekeiieefkgopaaDoor.Mr Go.Proofs.YtekeiieefkgopaaDoor.Mb Go.Proofs.YtekeiieefkgopaaDoor.Mc Go.Proofs.YtekeiieefkgopaaDoor.Mp
set_option linter.unusedVariables false
set_option linter.unusedSimpArgs false

/-- A teller that a map holds. -/
def teller1 (ba : Nat) : Value := .func (.func 119) #[] #[.pointer (some ⟨ba, 0, none⟩)]
def teller2 (bb : Nat) : Value := .func (.func 121) #[] #[.pointer (some ⟨bb, 0, none⟩)]
def teller3 (ba bo bb : Nat) : Value := .func (.func 122) #[] #[.pointer (some ⟨ba, 0, none⟩), .pointer (some ⟨bo, 0, none⟩), .pointer (some ⟨bb, 0, none⟩)]
/-- What the map of tellers tells. -/
structure Tellers (w : World) (m ba bo bb : Nat) : Prop where
  map : ∃ M : List (Int × Value), MapV (Value.int .i64) w m M ∧ mget M 0 = some (teller1 ba) ∧ mget M 1 = some (teller1 ba) ∧ mget M 3 = some (teller1 ba) ∧ mget M 2 = some (teller2 bb) ∧ mget M 4 = some (teller3 ba bo bb)
theorem Tellers.ch {w w' : World} {m ba bo bb : Nat} (h : Tellers w m ba bo bb) (hc : Ch no w w') : Tellers w' m ba bo bb := by
  obtain ⟨M, hm, hr⟩ := h.map
  exact ⟨M, hm.ch hc (no_not _), hr⟩

set_option maxRecDepth 100000 in
set_option maxHeartbeats 4000000 in
theorem tellers_any (Aa Ao Ab : Option Addr) (ca co cb : Nat) (o a b : List ByteArray) (w : World) :
    Calls Tryd.prog 108 #[.slice Ao o.length co, .slice Aa a.length ca, .slice Ab b.length cb] w fun e w' => ∃ m ba bo bb, e = .returned (.map (some m)) ∧ Tellers w' m ba bo bb ∧
      w'.heap[ba]? = some (.cells #[.slice Aa a.length ca] 25 (0, 0)) ∧ w'.heap[bo]? = some (.cells #[.slice Ao o.length co] 25 (0, 0)) ∧ w'.heap[bb]? = some (.cells #[.slice Ab b.length cb] 25 (0, 0)) ∧ Ch no w w' := by
  have hmm := @run_makeMap Tryd.prog
  have H0 := Lib.hid (bNew w (.cells #[.slice Ao o.length co] 25))
  have H1 := Lib.hid (bNew (w.alloc (.cells #[.slice Ao o.length co] 25)) (.cells #[.slice Aa a.length ca] 25))
  have H2 := Lib.hid (bNew ((w.alloc (.cells #[.slice Ao o.length co] 25)).alloc (.cells #[.slice Aa a.length ca] 25)) (.cells #[.slice Ab b.length cb] 25))
  have HM := Lib.hid (show MapV (Value.int .i64) ((((w.alloc (.cells #[.slice Ao o.length co] 25)).alloc (.cells #[.slice Aa a.length ca] 25)).alloc (.cells #[.slice Ab b.length cb] 25)).alloc (.map #[] 0)) (w.heap.size + 1 + 1 + 1) [] from by have := MapV.new (enc := Value.int .i64) (((w.alloc (.cells #[.slice Ao o.length co] 25)).alloc (.cells #[.slice Aa a.length ca] 25)).alloc (.cells #[.slice Ab b.length cb] 25)); simpa using this)
  go_enter Tryd.func108, Tryd.ntmps108
  go_wp2_with (first | (refine wpList_put (enc := Value.int .i64) rfl _ _ _ (.inr rfl) intKey Tryd.underlying137 Tryd.underlying3 rfl HM.out _ rfl _ rfl ?_; intro w1 hm1 hc1) | (refine wpList_put (enc := Value.int .i64) rfl _ _ _ (.inr rfl) intKey Tryd.underlying137 Tryd.underlying3 rfl hm1 _ rfl _ rfl ?_; intro w2 hm2 hc2) | (refine wpList_put (enc := Value.int .i64) rfl _ _ _ (.inr rfl) intKey Tryd.underlying137 Tryd.underlying3 rfl hm2 _ rfl _ rfl ?_; intro w3 hm3 hc3) | (refine wpList_put (enc := Value.int .i64) rfl _ _ _ (.inr rfl) intKey Tryd.underlying137 Tryd.underlying3 rfl hm3 _ rfl _ rfl ?_; intro w4 hm4 hc4) | (refine wpList_put (enc := Value.int .i64) rfl _ _ _ (.inr rfl) intKey Tryd.underlying137 Tryd.underlying3 rfl hm4 _ rfl _ rfl ?_; intro w5 hm5 hc5))
  go_ret
  have hch : Ch (one (w.heap.size + 1 + 1 + 1)) ((((w.alloc (.cells #[.slice Ao o.length co] 25)).alloc (.cells #[.slice Aa a.length ca] 25)).alloc (.cells #[.slice Ab b.length cb] 25)).alloc (.map #[] 0)) w5 := (((hc1.same hc2).same hc3).same hc4).same hc5
  have h0 := hch.blk (Ch.blk (S := no) ((((Ch.refl _ _).alloc _).alloc _).alloc _) H0.out (no_not _)) (by intro h; have : w.heap.size = w.heap.size + 1 + 1 + 1 := h; omega)
  have h1 := hch.blk (Ch.blk (S := no) (((Ch.refl _ _).alloc _).alloc _) H1.out (no_not _)) (by intro h; have : (w.alloc (.cells #[.slice Ao o.length co] 25)).heap.size = w.heap.size + 1 + 1 + 1 := h; simp at this)
  have h2 := hch.blk (Ch.blk (S := no) ((Ch.refl _ _).alloc _) H2.out (no_not _)) (by intro h; have : ((w.alloc (.cells #[.slice Ao o.length co] 25)).alloc (.cells #[.slice Aa a.length ca] 25)).heap.size = w.heap.size + 1 + 1 + 1 := h; simp at this)
  simp only [World.size_alloc] at h1 h2
  refine ⟨w.heap.size + 1 + 1 + 1, w.heap.size + 1, w.heap.size, w.heap.size + 1 + 1, rfl, ⟨_, hm5, ?_, ?_, ?_, ?_, ?_⟩, h1, h0, h2, ?_⟩
  · rfl
  · rfl
  · rfl
  · rfl
  · rfl
  · exact ((((Ch.refl no w).alloc _).alloc _).alloc _ |>.alloc _).trans hch (fun i hi h => by have : i = w.heap.size + 1 + 1 + 1 := h; omega)
end Go.Proofs.YtekeiieefkgopaaDoor.Md
