/- One struct appended at a step of a region that draws its order. -/
import Derived.Test.YtanidaepfepppaaDoorStr
import Derived.Deep.RegionHeld3
import Derived.Maps.AppendAt
namespace Go.Proofs.YtanidaepfepppaaDoor
open Go.RowKit

theorem appStepN {P : Program} {w0 : World} {ops : Array Oper} {o : Oper} {a : Act} {K : Act → World → Prop} {Q : Exit → Act → World → Prop} {E : Prop} (hgd : o.guard = none) (s x : Operand) (T e : TypeId) (z0 : Value) (sz bytes : Nat)
    (ho : o.op = .call { callee := .builtin .append, args := #[s, x], argTypes := #[T, T] }) (ht : P.underlying T = some (.slice e)) (hinfo : (P.info? e).map (fun i => (i.zero, i.size, i.bytes)) = some (some z0, sz, bytes)) (hz : z0.cells.size = sz) (hsz : 0 < sz)
    (base : Nat) (v : Value) (els : List (List Value)) (hs : a.eval s = v) (hown : RowS sz base e w0 v els) (ad : Addr) (c : Nat) (news : List (List Value)) (hx : a.eval x = .slice (some ad) news.length c) (hsrc : SlcS sz w0 (.slice (some ad) news.length c) news) (hy : ∀ el ∈ news, ∀ y ∈ el, y.oneCell' = true)
    (h63 : els.length + news.length ≤ maxLen) (hbytes : (els.length + news.length) * bytes ≤ 140737488355328) (hbase : base ≤ w0.heap.size)
    (h : ∀ v' w1, RowS sz base e w1 v' (els ++ news) → w0.grownBy w1 v.ownBlock → Below base w0 w1 → (v'.ownBlock = v.ownBlock ∨ v'.ownBlock = some w0.heap.size) → K (a.put o.dst v') w1) :
    if Region.wanted o (yielded ops a.tmps) = true then Oper.wp P o a w0 K Q else E := by
  have hw : Region.wanted o (yielded ops a.tmps) = true := by simp [Region.wanted, hgd]
  rw [if_pos hw]
  obtain ⟨i0, hi, hz0, hz1, hz2⟩ := info_parts hinfo
  have hns := hsrc.size
  obtain ⟨p', cap, hv, hl, hc, hn, _, hcell⟩ := hsrc
  obtain ⟨rfl, rfl⟩ : some ad = p' ∧ c = cap := by simpa using hv
  have hnews : ∀ j u, news.flatten[j]? = some u → w0.cell? ((some ad).getD ⟨0, 0, none⟩ |>.add j) = some u := by
    intro j u hu
    obtain ⟨hj, rfl⟩ := List.getElem?_eq_some_iff.1 hu
    have hjl : j < news.length * sz := by rw [← flat_len hns]; exact hj
    have hi' : j / sz < news.length := Nat.div_lt_of_lt_mul (by rw [Nat.mul_comm]; exact hjl)
    have hr : j % sz < sz := Nat.mod_lt _ hsz
    have hjj : j / sz * sz + j % sz = j := by rw [Nat.mul_comm]; exact Nat.div_add_mod j sz
    obtain ⟨b, off, hp, hk⟩ := hcell (j / sz) hi'
    simp only [Option.some.injEq] at hp
    subst hp
    show w0.cell? ((⟨b, off, none⟩ : Addr).add j) = _
    have hk' := hk (j % sz) hr
    rw [show off + j / sz * sz + j % sz = off + j by omega] at hk'
    rw [show (⟨b, off, none⟩ : Addr).add j = ⟨b, off + j, none⟩ by unfold Addr.add; split <;> simp_all, hk']
    have hf := flat_get hns (j / sz) (j % sz) hi' hr
    rw [hjj] at hf
    rw [← hf, List.getElem?_eq_getElem hj]
  have hone : ∀ u ∈ news.flatten, u.oneCell' = true := by
    intro u hu
    obtain ⟨el, h1, h2⟩ := List.mem_flatten.1 hu
    exact hy el h1 u h2
  obtain ⟨v', w1, hr, hown', hgrow, _, hat⟩ := run_append_own_at (P := P) w0 base T o.type e i0 z0 sz bytes ht hi hz0 hz1 hz2 hz hsz v els.length els.flatten hown.1 ad news.length c news.flatten (flat_len hns) hnews hone h63 hbytes hbase
  unfold Oper.wp execOp
  simp only [ho, resolve, invoke, builtin, Sem.run_bind, Sem.run_pure, Result.andThen_ok, List.map_toArray, List.map_cons, List.map_nil, hs, hx, hr]
  refine h v' w1 ⟨by rw [List.length_append, List.flatten_append]; exact hown', fun el hel => (List.mem_append.1 hel).elim (hown.2 el) (hns el)⟩ hgrow ((Below.refl base w0).grown hgrow hbase fun j ej => ?_) hat
  rcases hown.1.2 with ⟨rfl, _⟩ | ⟨g, cap, cur, rfl, hb, _, _⟩
  · simp [Value.ownBlock] at ej
  · obtain rfl : g = j := by simpa [Value.ownBlock] using ej
    exact hb
end Go.Proofs.YtanidaepfepppaaDoor
