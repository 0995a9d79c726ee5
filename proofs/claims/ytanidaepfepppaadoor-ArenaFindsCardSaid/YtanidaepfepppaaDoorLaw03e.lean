/- ArenaFinds: what its walk keeps. -/
import Derived.Test.YtanidaepfepppaaDoorAr6T
import Derived.Test.YtanidaepfepppaaDoorArF
import Derived.Test.YtanidaepfepppaaDoorTag
namespace Go.Proofs.YtanidaepfepppaaDoor.ArT
open Go.RowKit Go.Proofs.YtanidaepfepppaaDoor

theorem ArenaAt.kept {W W' : World} {p b : Nat} {la : List (Slot El)} {row : Option Nat} (h : ArenaAt W p b la) (hg : W.grownBy W' row) (hp : some p ≠ row) (hb : some b ≠ row) : ArenaAt W' p b la := ⟨h.hdr.kept hg hp, h.buf.kept hg hb, h.ne, h.lo, h.hi, h.ok⟩
/-- The arena, and the three rows. -/
structure Rows3 (n0 : Nat) (W : World) (p b : Nat) (la : List (Slot El)) (T : List (Int × Int)) (X : List El) (G : List Bool) (tv xv gv : Value) : Prop where
  ar : ArenaAt W p b la
  told : RowS 2 n0 34 W tv (T.map hEl)
  things : RowS 2 n0 29 W xv (X.map xCells)
  gone : W.ownsRow n0 4 1 gv G.length (G.map Value.bool)
section
variable {n0 p b : Nat} {W W' : World} {la la' : List (Slot El)} {T : List (Int × Int)} {X : List El} {G : List Bool} {tv xv gv : Value}
theorem Rows3.keeps (h : Rows3 n0 W p b la T X G tv xv gv) (hk : Keeps W W') : Rows3 n0 W' p b la T X G tv xv gv :=
  ⟨h.ar.keeps hk, h.told.keepsI hk, h.things.keepsI hk, own_keeps h.gone hk⟩
/-- The arena has changed. -/
theorem Rows3.arena (h : Rows3 n0 W p b la T X G tv xv gv) (ha : ArenaAt W' p b la') (hc : Chg (fun k => k = p ∨ k = b) W W') : Rows3 n0 W' p b la' T X G tv xv gv :=
  ⟨ha, ⟨own_two h.told.1 h.ar.hdr h.ar.buf (by decide) (by decide) hc, h.told.2⟩, ⟨own_two h.things.1 h.ar.hdr h.ar.buf (by decide) (by decide) hc, h.things.2⟩, own_two h.gone h.ar.hdr h.ar.buf (by decide) (by decide) hc⟩
/-- One more in a row. -/
theorem Rows3.pushT (h : Rows3 n0 W p b la T X G tv xv gv) {tv' : Value} {z : Int × Int} (hr : RowS 2 n0 34 W' tv' (T.map hEl ++ [hEl z])) (hg : W.grownBy W' tv.ownBlock) : Rows3 n0 W' p b la (T ++ [z]) X G tv' xv gv :=
  ⟨h.ar.kept hg (own_ne h.told.1 h.ar.hdr (by decide)) (own_ne h.told.1 h.ar.buf (by decide)), by rw [List.map_append]; exact hr, ⟨own_tag h.things.1 h.told.1 (by decide) hg, h.things.2⟩, own_tag h.gone h.told.1 (by decide) hg⟩
theorem Rows3.pushX (h : Rows3 n0 W p b la T X G tv xv gv) {xv' : Value} {z : El} (hr : RowS 2 n0 29 W' xv' (X.map xCells ++ [xCells z])) (hg : W.grownBy W' xv.ownBlock) : Rows3 n0 W' p b la T (X ++ [z]) G tv xv' gv :=
  ⟨h.ar.kept hg (own_ne h.things.1 h.ar.hdr (by decide)) (own_ne h.things.1 h.ar.buf (by decide)), ⟨own_tag h.told.1 h.things.1 (by decide) hg, h.told.2⟩, by rw [List.map_append]; exact hr, own_tag h.gone h.things.1 (by decide) hg⟩
theorem Rows3.pushG (h : Rows3 n0 W p b la T X G tv xv gv) {gv' : Value} {z : Bool} (hr : W'.ownsRow n0 4 1 gv' (G.length + 1) (G.map Value.bool ++ [.bool z])) (hg : W.grownBy W' gv.ownBlock) : Rows3 n0 W' p b la T X (G ++ [z]) tv xv gv' :=
  ⟨h.ar.kept hg (own_ne h.gone h.ar.hdr (by decide)) (own_ne h.gone h.ar.buf (by decide)), ⟨own_tag h.told.1 h.gone (by decide) hg, h.told.2⟩, ⟨own_tag h.things.1 h.gone (by decide) hg, h.things.2⟩, by rw [List.length_append, List.map_append]; exact hr⟩
/-- One is marked as gone. -/
theorem Rows3.mark {g cap : Nat} (h : Rows3 n0 W p b la T X G tv xv (.slice (some ⟨g, 0, none⟩) G.length cap)) (k : Nat) (z : Bool) : Rows3 n0 (W.setCell ⟨g, k, none⟩ (.bool z)) p b la T X (G.set k z) tv xv (.slice (some ⟨g, 0, none⟩) G.length cap) := by
  obtain ⟨hl, hr⟩ := h.gone
  rcases hr with ⟨hv, _⟩ | ⟨g', cap', cur, hv, h3, h4, h5, h6, h7, h8⟩
  · simp at hv
  · simp only [Value.slice.injEq, Option.some.injEq, Addr.mk.injEq, and_true, true_and] at hv
    obtain ⟨rfl, rfl⟩ := hv
    have hB : Blk W g 4 cur.toList := by unfold Blk; rw [h4]
    have hc : Chg (· = g) W (W.setCell ⟨g, k, none⟩ (.bool z)) := Chg.setCell _ _ rfl
    have hB2 := hB.set k (.bool z)
    refine ⟨⟨h.ar.hdr.other (blk_ne h.ar.hdr hB (by decide)) _ _, h.ar.buf.other (blk_ne h.ar.buf hB (by decide)) _ _, h.ar.ne, h.ar.lo, h.ar.hi, h.ar.ok⟩, ⟨own_chg h.told.1 hc (fun x hx e => own_ne h.told.1 hB (by decide) (e ▸ hx.symm)), h.told.2⟩, ⟨own_chg h.things.1 hc (fun x hx e => own_ne h.things.1 hB (by decide) (e ▸ hx.symm)), h.things.2⟩, ?_⟩
    rw [List.length_set]
    refine ⟨by rw [List.length_map, List.length_set, Nat.mul_one], .inr ⟨g, cap, (cur.toList.set k (.bool z)).toArray, rfl, h3, hB2, h5, h6, by simpa using h7, ?_⟩⟩
    rw [List.toList_toArray, List.map_set, ← h8, List.take_set]
end
end Go.Proofs.YtanidaepfepppaaDoor.ArT
