/-
  Texts put behind each other by a program: A0.
-/
import Derived.Test.YtjlnnljohemifaaGreatK9
import Derived.Test.YtjlnnljohemifaaGreatProg
import Derived.Test.YtjlnnljohemifaaGreatChecked
import Derived.Eval
import Derived.KernelRfl
set_option maxRecDepth 100000
namespace Go.Vc
abbrev af(d x:Nat):gB:=s1 d (.di (tt x))
abbrev ar(d x:Nat):gB:=s1 d (.gC (tt x))
abbrev aB(d x:Nat):gB:=s1 d (.nilCheck (tt x))
abbrev az(d f x:Nat):gB:=s1 d (.fieldAddr f (tt x))
abbrev aU(d f x:Nat):gB:=s1 d (.extract f (tt x))
abbrev aZ(d n x y:Nat):gB:=s1 d (.indexAddr n (tt x) (tt y))
abbrev aV(d:Nat)(x:Int):gB:=s1 d (.di (ki x))
abbrev stT(d n x y:Nat):gB:=s1 d (.store n (tt x) (tt y))
abbrev bK(d:Nat):gB:=s1 d (.di (kb false))
abbrev oO(d:Nat):gB:=s1 d (.di (kb true))
abbrev bj(g:Nat)(w:Bool)(d x:Nat):gB:=sg g w d (.di (tt x))
abbrev kJ(g:Nat)(w:Bool)(d x:Nat):gB:=sg g w d (.gC (tt x))
abbrev qR(g:Nat)(w:Bool)(d f x:Nat):gB:=sg g w d (.fieldAddr f (tt x))
abbrev Bm(g:Nat)(w:Bool)(d x:Nat):gB:=sg g w d (.nilCheck (tt x))
abbrev qS(d x y:Nat):gB:=s1 d (.pick (tt x) (tt y) (kb false))
abbrev mc(d x y:Nat):gB:=s1 d (.pick (tt x) (kb true) (tt y))
abbrev rz(d n x:Nat):gB:=s1 d (.uR n (tt x))
abbrev lZ(f x:Nat):dc:=.call f [tt x]
abbrev bf(f x y:Nat):dc:=.call f [tt x,tt y]
abbrev jc(f x y z:Nat):dc:=.call f [tt x,tt y,tt z]
def MN:S→List TA
 | .ag ops aN=>[(aN,(ops.zipIdx.filter fun p=>p.1.1).map (·.2),[])]
 | .seq a b=>MN a++MN b
 | .cond _ a b=>MN a++MN b
 | .cR _ b=>MN b
 | .loop L b=>(L,[],[])::MN b
 |_=>[]
def dq(P:Program)(f:Nat)(F:Fn):Option Fn:=ir P f (MN F.body)
end Go.Vc
namespace Go.Proofs.YtjlnnljohemifaaGreat
open Go Go.Vc
theorem mixed:Tryz.prog.follows .mixedOrders=true:=Tryz.checked.mixed
theorem bc{f:Nat}{an:List TA}{F:Vc.Fn}(d:ir Tryz.prog f an=some F){args:List Value}{H:Hp}{K:Value→Hp→Prop}(h:F.vc Tryz.prog args H K):ah Tryz.prog f args H K:=Ri mixed d h
abbrev vZ:Nat:=6
abbrev BC:Nat:=14
abbrev we:Nat:=15
abbrev JE:Nat:=16
abbrev FY:Nat:=18
abbrev ER:Nat:=20
abbrev ES:Nat:=22
abbrev HH:Nat:=24
abbrev HI:Nat:=25
abbrev HJ:Nat:=51
abbrev FZ:Nat:=52
abbrev Pa:Nat:=53
abbrev Dc:Nat:=54
abbrev BD:Nat:=57
abbrev tI:Nat:=61
abbrev vl:Nat:=62
abbrev nm:Nat:=63
abbrev qT:Nat:=64
abbrev JF:Nat:=65
abbrev yf:Nat:=66
abbrev wg:Nat:=67
abbrev zP:Nat:=69
abbrev vm:Nat:=72
abbrev KY:Nat:=76
abbrev zQ:Nat:=77
abbrev zR:Nat:=78
abbrev KZ:Nat:=95
abbrev I3:Nat:=96
abbrev ju:Nat:=97
abbrev BE:Nat:=98
abbrev gD:Nat:=102
abbrev BF:Nat:=103
abbrev zS:Nat:=104
abbrev F0:Nat:=109
abbrev zT:Nat:=110
abbrev zU:Nat:=111
abbrev zV:Nat:=112
abbrev BG:Nat:=113
abbrev yg:Nat:=128
abbrev MO:Nat:=129
abbrev HK:Nat:=130
abbrev sE:Nat:=131
abbrev F1:Nat:=132
abbrev tJ:Nat:=133
abbrev HL:Nat:=134
abbrev rA:Nat:=135
abbrev ET:Nat:=136
abbrev tK:Nat:=137
abbrev HM:Nat:=138
abbrev yi:Nat:=139
abbrev MP:Nat:=140
abbrev yj:Nat:=141
abbrev MQ:Nat:=142
abbrev zW:Nat:=143
abbrev Dd:Nat:=156
abbrev De:Nat:=157
abbrev zX:Nat:=158
abbrev wh:Nat:=165
abbrev MR:Nat:=166
abbrev K4:Nat:=167
abbrev MS:Nat:=168
abbrev BH:Nat:=169
abbrev K5:Nat:=170
abbrev zY:Nat:=171
abbrev Df:Nat:=178
abbrev K6:Nat:=188
abbrev nq:Nat:=214
abbrev zZ:Nat:=215
abbrev bk:Nat:=216
abbrev oP:Nat:=217
abbrev bF:Nat:=218
abbrev jv:Nat:=219
abbrev pQ:Nat:=220
abbrev kP:Nat:=221
abbrev sF:Nat:=222
abbrev uS:Nat:=224
abbrev ix:Nat:=226
abbrev Dg:Nat:=227
abbrev Dh:Nat:=228
abbrev BI:Nat:=229
abbrev jw:Nat:=230
abbrev kQ:Nat:=231
abbrev F2:Nat:=232
abbrev dA:Nat:=233
abbrev HN:Nat:=234
abbrev JG:Nat:=235
abbrev HO:Nat:=236
abbrev yk:Nat:=237
abbrev EU:Nat:=238
abbrev EV:Nat:=239
abbrev HP:Nat:=240
abbrev pR:Nat:=241
abbrev Di:Nat:=242
abbrev JH:Nat:=243
abbrev cP:Nat:=244
abbrev jd:Nat:=245
abbrev j7:Nat:=247
abbrev kR:Nat:=248
abbrev nu:Nat:=249
abbrev oQ:Nat:=251
abbrev yn:Nat:=252
abbrev wk:Nat:=253
abbrev gE:Nat:=254
abbrev wq:Nat:=255
abbrev yo:Nat:=256
abbrev yp:Nat:=257
abbrev BJ:Nat:=258
abbrev tL:Nat:=259
abbrev oR:Nat:=260
abbrev pk:Nat:=261
abbrev kT:Nat:=262
abbrev wu:Nat:=263
abbrev nw:Nat:=264
abbrev z8:Nat:=265
abbrev ww:Nat:=266
abbrev yq:Nat:=267
abbrev Aa:Nat:=268
abbrev kU:Nat:=269
abbrev qI:Nat:=270
abbrev vp:Nat:=271
abbrev yt:Nat:=272
abbrev yu:Nat:=273
abbrev j8:Nat:=274
abbrev vq:Nat:=275
abbrev kV:Nat:=276
abbrev mi:Nat:=277
abbrev oS:Nat:=278
abbrev pS:Nat:=280
abbrev Ab:Nat:=281
abbrev yw:Nat:=282
abbrev yx:Nat:=283
abbrev yy:Nat:=284
abbrev is:Nat:=285
abbrev je:Nat:=287
abbrev j9:Nat:=288
abbrev mj:Nat:=289
abbrev ny:Nat:=291
abbrev sG:Nat:=292
abbrev tM:Nat:=293
abbrev Dj:Nat:=294
abbrev BK:Nat:=295
abbrev vr:Nat:=296
abbrev vt:Nat:=297
abbrev wx:Nat:=298
abbrev rB:Nat:=299
abbrev yz:Nat:=300
abbrev Dk:Nat:=301
abbrev tN:Nat:=302
abbrev BL:Nat:=303
abbrev ke:Nat:=304
abbrev vu:Nat:=305
abbrev kW:Nat:=306
abbrev ml:Nat:=307
abbrev oT:Nat:=308
abbrev pT:Nat:=310
abbrev BM:Nat:=311
abbrev yA:Nat:=312
abbrev wz:Nat:=313
abbrev HQ:Nat:=314
abbrev Ac:Nat:=315
abbrev yB:Nat:=316
abbrev Dl:Nat:=317
abbrev Ad:Nat:=318
abbrev yC:Nat:=319
abbrev JI:Nat:=320
abbrev BN:Nat:=321
abbrev vw:Nat:=322
abbrev JJ:Nat:=323
abbrev BO:Nat:=324
abbrev vx:Nat:=325
abbrev Ae:Nat:=326
abbrev nA:Nat:=327
abbrev Af:Nat:=328
abbrev oU:Nat:=329
abbrev pU:Nat:=330
abbrev uT:Nat:=332
abbrev BP:Nat:=333
abbrev BQ:Nat:=334
abbrev BR:Nat:=335
abbrev BS:Nat:=336
abbrev nB:Nat:=337
abbrev Ag:Nat:=338
abbrev oV:Nat:=339
abbrev pV:Nat:=340
abbrev sH:Nat:=341
abbrev uU:Nat:=343
abbrev wA:Nat:=344
abbrev sI:Nat:=345
abbrev vy:Nat:=346
abbrev vz:Nat:=347
abbrev yD:Nat:=348
abbrev jo:Nat:=351
abbrev sJ:Nat:=352
abbrev uV:Nat:=353
abbrev sK:Nat:=354
abbrev sL:Nat:=355
def gF:Vc.Fn:=⟨2,[(.tmp 4)],
 (.seq (.ag [s1 2 (.box 44 (tt 0)),bK 4] [1,2]) (.seq (.seq (.ag [s1 11 (.call 15 []),s1 12 (.un .not (tt 11))] [1,2,12]) (.cond (tt 12) (.seq (.ag [bK 4] [4]) .ret) .skip)) (.seq (.seq (.ag [af 13 1,s1 14 (.bz (tt 13)),s1 15 (.aD .gtr .int (tt 14) (ki 200)),af 16 15,sg 16 false 17 (.dB 2 2 (tt 2) (ki 0)),sg 16 false 18 (.uR 2 (tt 17)),sg 16 false 19 (lZ 24 18),sg 16 false 20 (.aD .neq .int (tt 19) (ki 0)),mc 21 16 20,af 22 21,sg 22 false 23 (.dB 2 2 (tt 2) (ki 1)),sg 22 false 24 (.uR 2 (tt 23)),sg 22 false 25 (lZ 24 24),sg 22 false 26 (.aD .neq .int (tt 25) (ki 0)),mc 27 22 26,af 28 27,bj 28 false 29 1,sg 28 false 30 (lZ 25 29),sg 28 false 31 (.un .not (tt 30)),mc 32 28 31] [1,2,32]) (.cond (tt 32) (.seq (.ag [oO 4] [4]) .ret) .skip)) (.seq (.ag [s1 34 (.dB 2 2 (tt 2) (ki 0)),rz 35 2 34,af 36 1,s1 37 (bf 14 35 36),af 33 37,aU 38 0 33,aU 39 1 33,af 5 38,af 6 39] [1,2,5,6]) (.seq (.ag [s1 41 (.dB 2 2 (tt 2) (ki 1)),rz 42 2 41,af 43 1,s1 44 (bf 14 42 43),af 40 44,aU 45 0 40,aU 46 1 40,af 7 45,af 8 46] [1,5,6,7,8]) (.seq (.seq (.ag [af 47 6,s1 48 (.aD .neq .int (tt 47) (ki 0)),af 49 48,bj 49 false 50 8,sg 49 false 51 (.aD .neq .int (tt 50) (ki 0)),mc 52 49 51,af 53 52,bj 53 false 54 5,bj 53 false 55 7,sg 53 false 56 (bf 16 54 55),sg 53 false 57 (.un .not (tt 56)),mc 58 53 57,af 59 58,bj 59 false 60 5,sg 59 false 61 (.bz (tt 60)),bj 59 false 62 1,sg 59 false 63 (.bz (tt 62)),sg 59 false 64 (.aD .neq .int (tt 61) (tt 63)),mc 65 59 64] [1,5,65]) (.cond (tt 65) (.seq (.ag [bK 4] [4]) .ret) .skip)) (.seq (.seq (.ag [af 66 5,s1 67 (.bz (tt 66)),aV 68 0] [1,5,67,68]) (.cR 0 (.loop [1,5,67,68] (.seq (.ag [s1 69 (.aD .lss .int (tt 68) (tt 67))] [1,5,67,68,69]) (.seq (.cond (tt 69) .skip (.exit 0)) (.seq (.cR 1 (.seq (.ag [af 70 68,af 9 70] [1,5,9,67,68]) (.seq (.ag [af 71 5,s1 72 (.bz (tt 71)),aV 73 0] [1,5,9,67,68,72,73]) (.cR 2 (.loop [1,5,9,67,68,72,73] (.seq (.ag [s1 74 (.aD .lss .int (tt 73) (tt 72))] [1,5,9,67,68,72,73,74]) (.seq (.cond (tt 74) .skip (.exit 2)) (.seq (.cR 3 (.seq (.ag [af 75 73,af 10 75] [1,5,9,10,67,68,72,73]) (.seq (.ag [af 76 1,af 77 9,aZ 78 1 76 77,ar 79 78,af 80 1,af 81 10,aZ 82 1 80 81,ar 83 82,s1 84 (.aD .gtr .int (tt 79) (tt 83)),af 85 84,bj 85 true 86 5,bj 85 true 87 9,sg 85 true 88 (.indexAddr 1 (tt 86) (tt 87)),kJ 85 true 89 88,bj 85 true 90 5,bj 85 true 91 10,sg 85 true 92 (.indexAddr 1 (tt 90) (tt 91)),kJ 85 true 93 92,sg 85 true 94 (.aD .gtr .int (tt 89) (tt 93)),qS 95 85 94] [1,5,9,67,68,72,73,95]) (.cond (tt 95) (.seq (.ag [bK 4] [4]) .ret) .skip)))) (.ag [s1 96 (.aD .add .int (tt 73) (ki 1)),af 73 96] [1,5,9,67,68,72,73]))))))))) (.ag [s1 97 (.aD .add .int (tt 68) (ki 1)),af 68 97] [1,5,67,68]))))))) (.seq (.ag [oO 4] [4]) .ret))))))))⟩
theorem wB:dq Tryz.prog 6 gF=some gF:=by kernel_rfl
def kX:Vc.Fn:=⟨2,[(.tmp 4),(.tmp 5)],
 (.seq (.ag [s1 2 (.box 23 (tt 0)),s1 4 (.di (.const (.slice none 0 0))),aV 5 0] [1,2]) (.seq (.seq (.ag [rz 13 2 2,s1 14 (lZ 51 13),af 6 14] [1,2,6]) (.seq (.ag [af 15 6,s1 16 (.aD .neq .int (tt 15) (ki 0))] [1,2,6,16]) (.cond (tt 16) (.seq (.ag [af 17 6,s1 4 (.di (.const (.slice none 0 0))),af 5 17] [4,5]) .ret) .skip))) (.seq (.seq (.ag [af 18 1,s1 19 (lZ 52 18),s1 20 (.un .not (tt 19))] [1,2,20]) (.cond (tt 20) (.seq (.ag [s1 4 (.di (.const (.slice none 0 0))),aV 5 201] [4,5]) .ret) .skip)) (.seq (.ag [af 21 1,s1 22 (.bz (tt 21)),af 7 22] [1,2,7]) (.seq (.seq (.ag [af 23 7,s1 24 (.aD .eql .int (tt 23) (ki 1))] [1,2,7,24]) (.cond (tt 24) (.seq (.ag [s1 25 (.lit 3 1 [(.int .i64 0)] [(0,(1,(ki 1)))]),af 4 25,aV 5 0] [4,5]) .ret) .skip)) (.seq (.ag [rz 27 2 2,af 28 7,s1 29 (.call 53 [(tt 27),(tt 28),(.const (.int .u32 4294967295))]),af 26 29,aU 30 0 26,aU 31 1 26,af 8 30,af 9 31] [1,7,8,9]) (.seq (.seq (.ag [af 32 9,s1 33 (.aD .neq .int (tt 32) (ki 0))] [1,7,8,9,33]) (.cond (tt 33) (.seq (.ag [af 34 9,s1 4 (.di (.const (.slice none 0 0))),af 5 34] [4,5]) .ret) .skip)) (.seq (.ag [af 35 8,af 36 1,s1 37 (bf 54 35 36),af 10 37] [7,10]) (.seq (.ag [af 38 10,s1 39 (.bz (tt 38)),s1 40 (.makeSlice 3 8 1 [(.int .i64 0)] (tt 39) (tt 39)),af 11 40] [7,10,11]) (.seq (.seq (.ag [af 41 10,s1 42 (.bz (tt 41)),s1 43 (.aD .sub .int (tt 42) (ki 2)),af 12 43] [7,10,11,12]) (.cR 0 (.loop [7,10,11,12] (.seq (.seq (.ag [af 44 12,s1 45 (.aD .geq .int (tt 44) (ki 0))] [7,10,11,12,45]) (.cond (tt 45) .skip (.exit 0))) (.seq (.cR 1 (.ag [af 48 11,af 49 12,af 50 11,af 51 10,af 52 12,aZ 53 1 51 52,ar 54 53,aZ 55 1 50 54,ar 56 55,s1 57 (.aD .add .int (tt 56) (ki 1)),aZ 58 1 48 49,s0 (.store 1 (tt 58) (tt 57))] [7,10,11,12])) (.ag [af 46 12,s1 47 (.aD .sub .int (tt 46) (ki 1)),af 12 47] [7,10,11,12])))))) (.seq (.ag [af 59 11,af 60 7,af 61 7,s1 62 (.slice 1 (tt 59) none (some (tt 60)) (some (tt 61))),af 4 62,aV 5 0] [4,5]) .ret)))))))))))⟩
theorem BT:dq Tryz.prog 14 kX=some kX:=by kernel_rfl
def gG:Vc.Fn:=⟨0,[(.tmp 0)],
 (.seq (.ag [bK 0] []) (.seq (.ag [s1 4 (.build [(.int .i64 0),(.int .i64 0)] [(0,(1,(ki 5)))]),s1 5 (.lit 2 3 [(.int .i64 0),(.int .i64 0),(.int .i64 0)] [(0,(1,(ki 1))),(1,(1,(ki 1))),(2,(1,(ki 2)))]),s1 6 (bf 14 4 5),af 3 6,aU 7 0 3,aU 8 1 3,af 1 7,af 2 8] [1,2]) (.seq (.ag [af 9 2,s1 10 (.aD .eql .int (tt 9) (ki 0)),af 11 10,bj 11 true 12 1,sg 11 true 13 (.lit 3 3 [(.int .i64 0),(.int .i64 0),(.int .i64 0)] [(0,(1,(ki 2))),(1,(1,(ki 2))),(2,(1,(ki 1)))]),sg 11 true 14 (bf 16 12 13),qS 15 11 14,af 16 15,bj 16 true 17 1,sg 16 true 18 (lZ 20 17),sg 16 true 19 (.aD .eql .int (tt 18) (ki 0)),qS 20 16 19,af 21 20,sg 21 true 22 (.lit 2 3 [(.int .i64 0),(.int .i64 0),(.int .i64 0)] [(0,(1,(ki 1))),(1,(1,(ki 1))),(2,(1,(ki 2)))]),bj 21 true 23 1,sg 21 true 24 (bf 22 22 23),qS 25 21 24,af 0 25] [0]) .ret)))⟩
theorem wC:dq Tryz.prog 15 gG=some gG:=by kernel_rfl
def tO:Vc.Fn:=⟨2,[(.tmp 4)],
 (.seq (.ag [bK 4] [0,1]) (.seq (.seq (.ag [af 6 0,s1 7 (.bz (tt 6)),af 8 1,s1 9 (.bz (tt 8)),s1 10 (.aD .neq .int (tt 7) (tt 9))] [0,1,10]) (.cond (tt 10) (.seq (.ag [bK 4] [4]) .ret) .skip)) (.seq (.seq (.ag [af 11 0,s1 12 (.bz (tt 11)),aV 13 0] [0,1,12,13]) (.cR 0 (.loop [0,1,12,13] (.seq (.ag [s1 14 (.aD .lss .int (tt 13) (tt 12))] [0,1,12,13,14]) (.seq (.cond (tt 14) .skip (.exit 0)) (.seq (.cR 1 (.seq (.ag [af 15 13,af 5 15] [0,1,5,12,13]) (.seq (.ag [af 16 0,af 17 5,aZ 18 1 16 17,ar 19 18,af 20 1,af 21 5,aZ 22 1 20 21,ar 23 22,s1 24 (.aD .neq .int (tt 19) (tt 23))] [0,1,12,13,24]) (.cond (tt 24) (.seq (.ag [bK 4] [4]) .ret) .skip)))) (.ag [s1 25 (.aD .add .int (tt 13) (ki 1)),af 13 25] [0,1,12,13]))))))) (.seq (.ag [oO 4] [4]) .ret))))⟩
theorem JK:dq Tryz.prog 16 tO=some tO:=by kernel_rfl
def pW:Vc.Fn:=⟨2,[(.agg 4 2),(.tmp 5)],
 (.seq (.ag [s1 4 (.zero 36 [(.int .i64 0),(.int .u64 0)]),bK 5] [0,1,4]) (.seq (.seq (.ag [af 13 0,s1 14 (.bz (tt 13)),af 15 1,s1 16 (.bz (tt 15)),s1 17 (.aD .neq .int (tt 14) (tt 16)),af 18 17,bj 18 false 19 0,sg 18 false 20 (.bz (tt 19)),sg 18 false 21 (.aD .gtr .int (tt 20) (ki 4096)),mc 22 18 21] [0,1,4,22]) (.cond (tt 22) (.seq (.ag [s1 23 (.build [(.int .i64 0),(.int .u64 0)] []),s0 (.store 2 (tt 4) (tt 23)),bK 5] [4,5]) .ret) .skip)) (.seq (.ag [s1 6 (.zero 36 [(.int .i64 0),(.int .u64 0)])] [0,1,4,6]) (.seq (.seq (.ag [af 24 0,s1 25 (.bz (tt 24)),aV 26 0] [1,4,6,24,25,26]) (.cR 0 (.loop [1,4,6,24,25,26] (.seq (.ag [s1 27 (.aD .lss .int (tt 26) (tt 25))] [1,4,6,24,25,26,27]) (.seq (.cond (tt 27) .skip (.exit 0)) (.seq (.cR 1 (.seq (.ag [af 28 26,aZ 29 1 24 26,ar 30 29,af 7 28,af 8 30] [1,4,6,7,8,24,25,26]) (.seq (.seq (.ag [af 31 8,s1 32 (.aD .lss .int (tt 31) (ki 1)),af 33 32,bj 33 false 34 1,bj 33 false 35 7,sg 33 false 36 (.indexAddr 1 (tt 34) (tt 35)),kJ 33 false 37 36,sg 33 false 38 (.aD .lss .int (tt 37) (ki 0)),mc 39 33 38,af 40 39,bj 40 false 41 1,bj 40 false 42 7,sg 40 false 43 (.indexAddr 1 (tt 41) (tt 42)),kJ 40 false 44 43,sg 40 false 45 (.aD .gtr .int (tt 44) (ki 4096)),mc 46 40 45] [1,4,6,7,8,24,25,26,46]) (.cond (tt 46) (.seq (.ag [s1 47 (.build [(.int .i64 0),(.int .u64 0)] []),s0 (.store 2 (tt 4) (tt 47)),bK 5] [4,5]) .ret) .skip)) (.seq (.ag [af 49 8,s1 50 (.conv .u64 (tt 49)),af 51 1,af 52 7,aZ 53 1 51 52,ar 54 53,s1 55 (.conv .u64 (tt 54)),s1 56 (bf 57 50 55),af 48 56,aU 57 0 48,aU 58 1 48,af 9 57,af 10 58] [1,4,6,9,10,24,25,26]) (.seq (.ag [az 60 1 6,ar 61 60,af 62 10,s1 63 (.ext 58 [(tt 61),(tt 62),(.const (.int .u64 0))]),af 59 63,aU 64 0 59,aU 65 1 59,af 11 64,af 12 65] [1,4,6,9,11,12,24,25,26]) (.ag [az 66 0 6,ar 67 66,af 68 9,af 69 12,s1 70 (.aD .add .int (tt 68) (tt 69)),s1 71 (.conv .i64 (tt 70)),s1 72 (.aD .add .int (tt 67) (tt 71)),af 73 11,s1 74 (.build [(.int .i64 0),(.int .u64 0)] [(0,(1,(tt 72))),(1,(1,(tt 73)))]),s0 (.store 2 (tt 6) (tt 74))] [1,4,6,24,25,26])))))) (.ag [s1 75 (.aD .add .int (tt 26) (ki 1)),af 26 75] [1,4,6,24,25,26]))))))) (.seq (.ag [rz 76 2 6,s0 (.store 2 (tt 4) (tt 76)),oO 5] [4,5]) .ret)))))⟩
theorem F3:dq Tryz.prog 18 pW=some pW:=by kernel_rfl
def n9:Vc.Fn:=⟨1,[(.tmp 2)],
 (.seq (.ag [aV 2 0] [0]) (.seq (.ag [af 9 0,s1 10 (lZ 61 9),af 3 10] [3]) (.seq (.seq (.ag [af 11 3,s1 12 (.bz (tt 11)),aV 13 0] [3,12,13]) (.cR 0 (.loop [3,12,13] (.seq (.ag [s1 14 (.aD .lss .int (tt 13) (tt 12))] [3,12,13,14]) (.seq (.cond (tt 14) .skip (.exit 0)) (.seq (.cR 1 (.seq (.ag [af 15 13,af 4 15] [3,4,12,13]) (.ag [af 16 3,af 17 4,af 18 3,af 19 4,aZ 20 1 18 19,ar 21 20,s1 22 (.Pb [(tt 21),(ki 1)]),aZ 23 1 16 17,s0 (.store 1 (tt 23) (tt 22))] [3,12,13]))) (.ag [s1 24 (.aD .add .int (tt 13) (ki 1)),af 13 24] [3,12,13]))))))) (.seq (.ag [af 25 3,s1 26 (lZ 62 25)] [3]) (.seq (.ag [aV 5 1,aV 6 0] [3,5,6]) (.seq (.seq (.ag [af 27 3,s1 28 (.bz (tt 27)),aV 29 0] [3,5,6,27,28,29]) (.cR 2 (.loop [3,5,6,27,28,29] (.seq (.ag [s1 30 (.aD .lss .int (tt 29) (tt 28))] [3,5,6,27,28,29,30]) (.seq (.cond (tt 30) .skip (.exit 2)) (.seq (.cR 3 (.seq (.ag [aZ 31 1 27 29,ar 32 31,af 8 32] [3,5,6,8,27,28,29]) (.seq (.cR 4 (.loop [3,5,6,8,27,28,29] (.seq (.seq (.ag [af 33 6,af 34 8,s1 35 (.aD .lss .int (tt 33) (tt 34)),af 36 35,bj 36 true 37 5,sg 36 true 38 (.aD .gtr .int (tt 37) (ki 0)),qS 39 36 38,af 40 39,bj 40 true 41 5,bj 40 true 42 3,sg 40 true 43 (.bz (tt 42)),sg 40 true 44 (.aD .leq .int (tt 41) (tt 43)),qS 45 40 44] [3,5,6,8,27,28,29,45]) (.cond (tt 45) .skip (.exit 4))) (.seq (.cR 5 (.ag [af 48 5,s1 49 (.aD .mul .int (tt 48) (ki 2)),af 5 49] [3,5,6,8,27,28,29])) (.ag [af 46 6,s1 47 (.aD .add .int (tt 46) (ki 1)),af 6 47] [3,5,6,8,27,28,29]))))) (.seq (.ag [af 50 8,af 6 50] [3,5,6,27,28,29]) (.seq (.seq (.ag [af 51 5,s1 52 (.aD .eql .int (tt 51) (ki 0))] [3,5,6,27,28,29,52]) (.cond (tt 52) (.seq (.ag [aV 2 1] [2]) .ret) .skip)) (.ag [af 53 5,s1 54 (.aD .sub .int (tt 53) (ki 1)),af 5 54] [3,5,6,27,28,29])))))) (.ag [s1 55 (.aD .add .int (tt 29) (ki 1)),af 29 55] [3,5,6,27,28,29]))))))) (.seq (.seq (.ag [af 56 5,s1 57 (.aD .eql .int (tt 56) (ki 0))] [57]) (.cond (tt 57) (.seq (.ag [aV 2 0] [2]) .ret) .skip)) (.seq (.ag [s1 2 (.di (ki (-1)))] [2]) .ret))))))))⟩
theorem EW:dq Tryz.prog 20 n9=some n9:=by kernel_rfl
def od:Vc.Fn:=⟨2,[(.tmp 4)],
 (.seq (.ag [bK 4] [0,1]) (.seq (.seq (.ag [af 11 0,s1 12 (lZ 52 11),s1 13 (.un .not (tt 12)),af 14 13,bj 14 false 15 0,sg 14 false 16 (.bz (tt 15)),bj 14 false 17 1,sg 14 false 18 (.bz (tt 17)),sg 14 false 19 (.aD .neq .int (tt 16) (tt 18)),mc 20 14 19,af 21 20,bj 21 false 22 1,sg 21 false 23 (.call 63 [(tt 22),(.func 64)]),mc 24 21 23,af 25 24,bj 25 false 26 1,sg 25 false 27 (lZ 20 26),sg 25 false 28 (.aD .gtr .int (tt 27) (ki 0)),mc 29 25 28] [0,1,29]) (.cond (tt 29) (.seq (.ag [bK 4] [4]) .ret) .skip)) (.seq (.ag [s1 31 (.build [(.int .i64 0),(.int .i64 0)] [(0,(1,(ki 1)))]),af 32 0,s1 33 (bf 14 31 32),af 30 33,aU 34 0 30,aU 35 1 30,af 5 34,af 6 35] [0,1,5,6]) (.seq (.ag [af 37 0,af 38 1,s1 39 (bf 18 37 38),af 36 39,aU 40 0 36,aU 41 1 36,s1 7 (.zero 36 [(.int .i64 0),(.int .u64 0)]),s0 (.store 2 (tt 7) (tt 40)),af 8 41] [0,5,6,7,8]) (.seq (.ag [af 43 0,af 44 5,s1 45 (bf 18 43 44),af 42 45,aU 46 0 42,aU 47 1 42,s1 9 (.zero 36 [(.int .i64 0),(.int .u64 0)]),s0 (.store 2 (tt 9) (tt 46)),af 10 47] [6,7,8,9,10]) (.seq (.ag [af 48 6,s1 49 (.aD .eql .int (tt 48) (ki 0)),af 50 49,bj 50 true 51 8,qS 52 50 51,af 53 52,bj 53 true 54 10,qS 55 53 54,af 56 55,sg 56 true 57 (.uR 2 (tt 7)),sg 56 true 58 (.uR 2 (tt 9)),sg 56 true 59 (.aD .eql (.s [(0,(none,.int)),(1,(none,.int))]) (tt 57) (tt 58)),qS 60 56 59,af 4 60] [4]) .ret))))))⟩
theorem EX:dq Tryz.prog 22 od=some od:=by kernel_rfl
def rD:Vc.Fn:=⟨1,[(.tmp 2)],
 (.seq (.ag [s1 1 (.box 23 (tt 0)),aV 2 0] [1]) (.seq (.seq (.ag [az 3 0 1,ar 4 3,s1 5 (.aD .lss .int (tt 4) (ki 1)),af 6 5,qR 6 false 7 0 1,kJ 6 false 8 7,sg 6 false 9 (.aD .gtr .int (tt 8) (ki 8)),mc 10 6 9] [1,10]) (.cond (tt 10) (.seq (.ag [aV 2 21] [2]) .ret) .skip)) (.seq (.seq (.ag [az 11 0 1,ar 12 11,s1 13 (.aD .eql .int (tt 12) (ki 2)),af 14 13,qR 14 true 15 1 1,kJ 14 true 16 15,sg 14 true 17 (.aD .geq .int (tt 16) (ki 2)),qS 18 14 17,af 19 18,qR 19 true 20 1 1,kJ 19 true 21 20,sg 19 true 22 (.aD .leq .int (tt 21) (ki 16)),qS 23 19 22,af 24 23,qR 24 false 25 0 1,kJ 24 false 26 25,sg 24 false 27 (.aD .neq .int (tt 26) (ki 2)),bj 24 false 28 27,qR 28 true 29 1 1,kJ 28 true 30 29,sg 28 true 31 (.aD .eql .int (tt 30) (ki 0)),sg 24 false 32 (.pick (tt 28) (tt 31) (kb false)),mc 33 24 32] [33]) (.cond (tt 33) (.seq (.ag [aV 2 0] [2]) .ret) .skip)) (.seq (.ag [aV 2 22] [2]) .ret))))⟩
theorem HR:dq Tryz.prog 24 rD=some rD:=by kernel_rfl
def rE:Vc.Fn:=⟨1,[(.tmp 2)],
 (.seq (.ag [bK 2] [0]) (.seq (.ag [aV 3 9223372036854775807] [0,3]) (.seq (.seq (.ag [af 6 0,s1 7 (.bz (tt 6)),aV 8 0] [0,3,6,7,8]) (.cR 0 (.loop [0,3,6,7,8] (.seq (.ag [s1 9 (.aD .lss .int (tt 8) (tt 7))] [0,3,6,7,8,9]) (.seq (.cond (tt 9) .skip (.exit 0)) (.seq (.cR 1 (.seq (.ag [aZ 10 1 6 8,ar 11 10,af 5 11] [0,3,5,6,7,8]) (.seq (.seq (.ag [af 12 5,s1 13 (.aD .lss .int (tt 12) (ki 1)),af 14 13,bj 14 false 15 5,bj 14 false 16 3,sg 14 false 17 (.aD .gtr .int (tt 15) (tt 16)),mc 18 14 17] [0,3,5,6,7,8,18]) (.cond (tt 18) (.seq (.ag [bK 2] [2]) .ret) .skip)) (.ag [af 19 3,af 20 5,s1 21 (.aD .sub .int (tt 19) (tt 20)),af 3 21] [0,3,6,7,8])))) (.ag [s1 22 (.aD .add .int (tt 8) (ki 1)),af 8 22] [0,3,6,7,8]))))))) (.seq (.ag [af 23 0,s1 24 (.bz (tt 23)),s1 25 (.aD .geq .int (tt 24) (ki 1)),af 26 25,bj 26 true 27 0,sg 26 true 28 (.bz (tt 27)),sg 26 true 29 (.aD .leq .int (tt 28) (ki 4096)),qS 30 26 29,af 2 30] [2]) .ret))))⟩
theorem HS:dq Tryz.prog 25 rE=some rE:=by kernel_rfl
end Go.Proofs.YtjlnnljohemifaaGreat
