/- What the functions of matrix answer to matrices that are not valid, by value (printed by gen302.py) -/
import Derived.Test.YtahcddpdgpjbnaaB304
import Derived.Test.YtahcddpdgpjbnaaM28
namespace Go.Proofs.Ytahcddpdgpjbnaa
open Go.Hp
variable {G:World} {U U':UH} {M M':MH}
abbrev OutZ (v:Value):Prop:=v = .tuple #[.agg #[.int .i64 0,.int .i64 0,.slice none 0 0],.int .i64 4]
abbrev OutY (v:Value):Prop:=v = .tuple #[.agg #[.int .i64 0,.int .i64 0,.slice none 0 0],.slice none 0 0,.int .i64 4]
theorem yR {r c:Int} {n cc:Nat} {p:Option Addr} (hn:n≤9223372036854775807) (h:¬ (Vld r c n)) :
  Ct Try.prog 9 [.agg #[.int .i64 r,.int .i64 c,.slice p n cc]] G U M fun v _ D=>D=[]∧OutZ v:=by
 refine Qf Try.func9 rfl rfl rfl rfl ?_
 repeat (first|refine Qc ?_|refine Qb fun _=>?_|refine w_al fun _=>?_)
 refine Qd rfl rfl rfl rfl rfl rfl (fun _=>QI (r:=r) (c:=c) (p:=p) (cc:=cc) hn) ?_
 rintro v U' D hU ⟨rfl,rfl,rfl⟩
 repeat (first|refine Qc ?_|refine Qb fun _=>?_|refine w_al fun _=>?_)
 rw [decide_eq_false h]
 repeat (first|refine Qc ?_|refine Qb fun _=>?_|refine w_al fun _=>?_)
 exact Qe [] sym rfl (.cons (.cell 0 rfl rfl rfl) (.cons (.tmp rfl) .nil)) uc sb (.inl rfl) ⟨rfl,rfl⟩
theorem Qaq {r c:Int} {n cc:Nat} {p:Option Addr} (hn:n≤9223372036854775807) (h:¬ (Vld r c n)) :
  Ct Try.prog 10 [.agg #[.int .i64 r,.int .i64 c,.slice p n cc]] G U M fun v _ D=>D=[]∧OutY v:=by
 refine Qf Try.func10 rfl rfl rfl rfl ?_
 repeat (first|refine Qc ?_|refine Qb fun _=>?_|refine w_al fun _=>?_)
 refine Qd rfl rfl rfl rfl rfl rfl (fun _=>QI (r:=r) (c:=c) (p:=p) (cc:=cc) hn) ?_
 rintro v U' D hU ⟨rfl,rfl,rfl⟩
 repeat (first|refine Qc ?_|refine Qb fun _=>?_|refine w_al fun _=>?_)
 rw [decide_eq_false h]
 repeat (first|refine Qc ?_|refine Qb fun _=>?_|refine w_al fun _=>?_)
 exact Qe [] sym rfl (.cons (.cell 0 rfl rfl rfl) (.cons (.tmp rfl) (.cons (.tmp rfl) .nil))) uc sb (.inl rfl) ⟨rfl,rfl⟩
theorem QbE {r c:Int} {n cc:Nat} {p:Option Addr} (hn:n≤9223372036854775807) (h:¬ (Vld r c n)) :
  Ct Try.prog 11 [.agg #[.int .i64 r,.int .i64 c,.slice p n cc]] G U M fun v _ D=>D=[]∧OutZ v:=by
 refine Qf Try.func11 rfl rfl rfl rfl ?_
 repeat (first|refine Qc ?_|refine Qb fun _=>?_|refine w_al fun _=>?_)
 refine Qd rfl rfl rfl rfl rfl rfl (fun _=>QI (r:=r) (c:=c) (p:=p) (cc:=cc) hn) ?_
 rintro v U' D hU ⟨rfl,rfl,rfl⟩
 repeat (first|refine Qc ?_|refine Qb fun _=>?_|refine w_al fun _=>?_)
 rw [decide_eq_false h]
 repeat (first|refine Qc ?_|refine Qb fun _=>?_|refine w_al fun _=>?_)
 exact Qe [] sym rfl (.cons (.cell 0 rfl rfl rfl) (.cons (.tmp rfl) .nil)) uc sb (.inl rfl) ⟨rfl,rfl⟩
theorem Qdf {r c i:Int} {n cc:Nat} {p:Option Addr} (hn:n≤9223372036854775807) (h:¬ (Vld r c n∧r=c)) :
  Ct Try.prog 13 [.agg #[.int .i64 r,.int .i64 c,.slice p n cc],.int .i64 i] G U M fun v _ D=>D=[]∧OutZ v:=by
 refine Qf Try.func13 rfl rfl rfl rfl ?_
 repeat (first|refine Qc ?_|refine Qb fun _=>?_|refine w_al fun _=>?_)
 refine Qd rfl rfl rfl rfl rfl rfl (fun _=>Yf (r:=r) (c:=c) (p:=p) (cc:=cc) hn) ?_
 rintro v U' D hU ⟨rfl,rfl,rfl⟩
 repeat (first|refine Qc ?_|refine Qb fun _=>?_|refine w_al fun _=>?_)
 rw [decide_eq_false h]
 repeat (first|refine Qc ?_|refine Qb fun _=>?_|refine w_al fun _=>?_)
 exact Qe [] sym rfl (.cons (.cell 0 rfl rfl rfl) (.cons (.tmp rfl) .nil)) uc sb (.inl rfl) ⟨rfl,rfl⟩
theorem Qau {r c:Int} {n cc:Nat} {p:Option Addr} (hn:n≤9223372036854775807) (h:¬ (Vld r c n∧r=c)) :
  Ct Try.prog 12 [.agg #[.int .i64 r,.int .i64 c,.slice p n cc]] G U M fun v _ D=>D=[]∧OutZ v:=by
 refine Qf Try.func12 rfl rfl rfl rfl ?_
 repeat (first|refine Qc ?_|refine Qb fun _=>?_|refine w_al fun _=>?_)
 refine Qd rfl rfl rfl rfl rfl rfl (fun _=>Yf (r:=r) (c:=c) (p:=p) (cc:=cc) hn) ?_
 rintro v U' D hU ⟨rfl,rfl,rfl⟩
 repeat (first|refine Qc ?_|refine Qb fun _=>?_|refine w_al fun _=>?_)
 rw [decide_eq_false h]
 repeat (first|refine Qc ?_|refine Qb fun _=>?_|refine w_al fun _=>?_)
 exact Qe [] sym rfl (.cons (.cell 0 rfl rfl rfl) (.cons (.tmp rfl) .nil)) uc sb (.inl rfl) ⟨rfl,rfl⟩
theorem Qdr {ra ca rb cb:Int} {na nb cca ccb:Nat} {pa pb:Option Addr} {vf:Value} (ha:na≤9223372036854775807) (hb:nb≤9223372036854775807) (h:¬ (Vld ra ca na∧Vld rb cb nb∧ra=rb∧ca=cb)) :
  Ct Try.prog 23 [.agg #[.int .i64 ra,.int .i64 ca,.slice pa na cca],.agg #[.int .i64 rb,.int .i64 cb,.slice pb nb ccb],vf] G U M fun v _ D=>D=[]∧OutZ v:=by
 refine Qf Try.func23 rfl rfl rfl rfl ?_
 repeat (first|refine Qc ?_|refine Qb fun _=>?_|refine w_al fun _=>?_)
 refine Qd rfl rfl rfl rfl rfl rfl (fun _=>QI (r:=ra) (c:=ca) (p:=pa) (cc:=cca) ha) ?_
 rintro v U' D hU ⟨rfl,rfl,rfl⟩
 repeat (first|refine Qc ?_|refine Qb fun _=>?_|refine w_al fun _=>?_)
 by_cases h1:Vld ra ca na
 ·rw [decide_eq_true h1]
  repeat (first|refine Qc ?_|refine Qb fun _=>?_|refine w_al fun _=>?_)
  refine Qd rfl rfl rfl rfl rfl rfl (fun _=>QI (r:=rb) (c:=cb) (p:=pb) (cc:=ccb) hb) ?_
  rintro v U' D hU ⟨rfl,rfl,rfl⟩
  repeat (first|refine Qc ?_|refine Qb fun _=>?_|refine w_al fun _=>?_)
  by_cases h2:Vld rb cb nb
  ·rw [decide_eq_true h2]
   repeat (first|refine Qc ?_|refine Qb fun _=>?_|refine w_al fun _=>?_)
   refine Qw rfl rfl (fun h3=>?_) (fun h3=>?_)
   ·repeat (first|refine Qc ?_|refine Qb fun _=>?_|refine w_al fun _=>?_)
    exact Qe [] sym rfl (.cons (.cell 0 rfl rfl rfl) (.cons (.tmp rfl) .nil)) uc sb (.inl rfl) ⟨rfl,rfl⟩
   repeat (first|refine Qc ?_|refine Qb fun _=>?_|refine w_al fun _=>?_)
   refine JU rfl (fun h4=>?_) (fun h4=>absurd ⟨h1,h2,by omega,h4⟩ h)
   repeat (first|refine Qc ?_|refine Qb fun _=>?_|refine w_al fun _=>?_)
   exact Qe [] sym rfl (.cons (.cell 0 rfl rfl rfl) (.cons (.tmp rfl) .nil)) uc sb (.inl rfl) ⟨rfl,rfl⟩
  ·rw [decide_eq_false h2]
   repeat (first|refine Qc ?_|refine Qb fun _=>?_|refine w_al fun _=>?_)
   exact Qe [] sym rfl (.cons (.cell 0 rfl rfl rfl) (.cons (.tmp rfl) .nil)) uc sb (.inl rfl) ⟨rfl,rfl⟩
 ·rw [decide_eq_false h1]
  repeat (first|refine Qc ?_|refine Qb fun _=>?_|refine w_al fun _=>?_)
  exact Qe [] sym rfl (.cons (.cell 0 rfl rfl rfl) (.cons (.tmp rfl) .nil)) uc sb (.inl rfl) ⟨rfl,rfl⟩
theorem Qeu {ra ca rb cb:Int} {na nb cca ccb:Nat} {pa pb:Option Addr} (ha:na≤9223372036854775807) (hb:nb≤9223372036854775807) (h:¬ (Vld ra ca na∧Vld rb cb nb∧ca=rb)) :
  Ct Try.prog 8 [.agg #[.int .i64 ra,.int .i64 ca,.slice pa na cca],.agg #[.int .i64 rb,.int .i64 cb,.slice pb nb ccb]] G U M fun v _ D=>D=[]∧OutZ v:=by
 refine Qf Try.func8 rfl rfl rfl rfl ?_
 repeat (first|refine Qc ?_|refine Qb fun _=>?_|refine w_al fun _=>?_)
 refine Qd rfl rfl rfl rfl rfl rfl (fun _=>QI (r:=ra) (c:=ca) (p:=pa) (cc:=cca) ha) ?_
 rintro v U' D hU ⟨rfl,rfl,rfl⟩
 repeat (first|refine Qc ?_|refine Qb fun _=>?_|refine w_al fun _=>?_)
 by_cases h1:Vld ra ca na
 ·rw [decide_eq_true h1]
  repeat (first|refine Qc ?_|refine Qb fun _=>?_|refine w_al fun _=>?_)
  refine Qd rfl rfl rfl rfl rfl rfl (fun _=>QI (r:=rb) (c:=cb) (p:=pb) (cc:=ccb) hb) ?_
  rintro v U' D hU ⟨rfl,rfl,rfl⟩
  repeat (first|refine Qc ?_|refine Qb fun _=>?_|refine w_al fun _=>?_)
  by_cases h2:Vld rb cb nb
  ·rw [decide_eq_true h2]
   repeat (first|refine Qc ?_|refine Qb fun _=>?_|refine w_al fun _=>?_)
   refine JU rfl (fun h4=>?_) (fun h4=>absurd ⟨h1,h2,h4⟩ h)
   repeat (first|refine Qc ?_|refine Qb fun _=>?_|refine w_al fun _=>?_)
   exact Qe [] sym rfl (.cons (.cell 0 rfl rfl rfl) (.cons (.tmp rfl) .nil)) uc sb (.inl rfl) ⟨rfl,rfl⟩
  ·rw [decide_eq_false h2]
   repeat (first|refine Qc ?_|refine Qb fun _=>?_|refine w_al fun _=>?_)
   exact Qe [] sym rfl (.cons (.cell 0 rfl rfl rfl) (.cons (.tmp rfl) .nil)) uc sb (.inl rfl) ⟨rfl,rfl⟩
 ·rw [decide_eq_false h1]
  repeat (first|refine Qc ?_|refine Qb fun _=>?_|refine w_al fun _=>?_)
  exact Qe [] sym rfl (.cons (.cell 0 rfl rfl rfl) (.cons (.tmp rfl) .nil)) uc sb (.inl rfl) ⟨rfl,rfl⟩
theorem Qem {ra ca rb cb:Int} {na nb cca ccb:Nat} {pa pb:Option Addr} (ha:na≤9223372036854775807) (hb:nb≤9223372036854775807) (h:¬ (Vld ra ca na∧Vld rb cb nb∧ra=rb∧ca=cb)) :
  Ct Try.prog 7 [.agg #[.int .i64 ra,.int .i64 ca,.slice pa na cca],.agg #[.int .i64 rb,.int .i64 cb,.slice pb nb ccb]] G U M fun v _ D=>D=[]∧OutZ v:=by
 refine Qf Try.func7 rfl rfl rfl rfl ?_
 repeat (first|refine Qc ?_|refine Qb fun _=>?_|refine w_al fun _=>?_)
 refine Qd rfl rfl rfl rfl rfl rfl (fun _=>Qdr ha hb h) ?_
 rintro v1 U1 D1 hU1 ⟨rfl,rfl⟩
 try rw [List.nil_append]
 repeat (first|refine Qc ?_|refine Qb fun _=>?_|refine w_al fun _=>?_)
 exact Qe [] sym rfl (.cons (.cell 0 rfl rfl rfl) (.cons (.tmp rfl) .nil)) uc sb (.inl rfl) ⟨rfl,rfl⟩
end Go.Proofs.Ytahcddpdgpjbnaa
