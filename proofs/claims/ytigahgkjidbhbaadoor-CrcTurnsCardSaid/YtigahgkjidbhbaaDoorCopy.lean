/- 'copy' of as many elements into a slice of the call's own. No program. -/
import Derived.Test.YtigahgkjidbhbaaDoorBase
import Derived.Laws.CopyOwn
namespace Go.Proofs.YtigahgkjidbhbaaDoor
open Go Go.RowKit

theorem wpList_copy_sl {P : Program} {w : World} {ops : Array Oper} {rest : List Oper} {o : Oper} {a : Act} {Q : Exit → Act → World → Prop} (hgd : o.guard = none) (d s : Operand) (t : TypeId)
    (ho : o.op = .call { callee := .builtin .copy, args := #[d, s], argTypes := #[t, t] }) (base e : TypeId) (z : Value) (bytes : Nat) (ht : P.underlying t = some (.slice e)) (hinfo : (P.info? e).map (fun i => (i.zero, i.size, i.bytes)) = some (some z, 1, bytes))
    (g n cap : Nat) (xs : List Value) (hd : a.eval d = .slice (some ⟨g, 0, none⟩) n cap) (hown : w.ownsRow base e 1 (.slice (some ⟨g, 0, none⟩) n cap) n xs)
    (u : Value) (cs : List Value) (hs : a.eval s = u) (hsrc : Sl w 1 n u cs) (h1 : ∀ v ∈ cs, v.oneCell' = true)
    (h : ∀ w', w'.ownsRow base e 1 (.slice (some ⟨g, 0, none⟩) n cap) n cs → Below base w w' → wpList P ops Q rest (a.put o.dst (goInt n)) w') : wpList P ops Q (o :: rest) a w := by
  obtain ⟨i, hi, hz, h4, h5⟩ := info_parts hinfo
  obtain ⟨h0, ao, capu, rfl, hmc, hcm, hnone, hc⟩ := hsrc
  rw [Nat.mul_one] at h0
  obtain ⟨hx, h2⟩ := hown
  rcases h2 with ⟨h2, _⟩ | ⟨g', cap', cur, h2, hb, hg, hnc, hm, hsz, htake⟩
  · cases h2
  · obtain ⟨e1, -, rfl⟩ := Value.slice.inj h2
    obtain rfl : g = g' := by simpa using e1
    rw [Nat.mul_one] at hsz htake hx
    have hcs : cs.length = Nat.min n n := by rw [h0]; exact (Nat.min_self n).symm
    refine wpList_copy_splice hgd d s t t ho e ht (by rw [hi]; simp [h4]) _ ao n cap n capu hd hs g 0 cur.toList e (by simpa using hg) cs hcs (fun hp => ⟨rfl, ?_⟩) (by simp; omega) h1 base w (Below.refl _ _) hb ?_
    · obtain ⟨b, off, e2, e3⟩ := hc 0 hp
      refine ⟨_, e2, fun j v hj => ?_⟩
      obtain ⟨hjl, rfl⟩ := List.getElem?_eq_some_iff.1 hj
      obtain ⟨b', off', e4, e5⟩ := hc j hjl
      rw [e2] at e4
      obtain ⟨rfl, rfl⟩ : b = b' ∧ off = off' := by simpa using e4
      rw [Addr.add_lit]
      exact e5
    · intro w' hh hbel
      rw [h0]
      refine h w' ⟨by omega, .inr ⟨g, cap, _, rfl, hb, hh.out, by omega, hm, ?_, ?_⟩⟩ hbel
      · simp [splice]; omega
      · rw [Nat.mul_one]
        simp only [splice, List.take_zero, List.nil_append, Nat.zero_add]
        exact List.take_left' h0
end Go.Proofs.YtigahgkjidbhbaaDoor
