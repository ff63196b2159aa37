/- Texts put behind each other. -/
import Derived.Test.YtjlnnljohemifaaGreatK98
import Derived.Test.YtjlnnljohemifaaGreatK9
import Derived.Test.YtjlnnljohemifaaGreatProg
import Derived.Test.YtjlnnljohemifaaGreatChecked
import Derived.Eval
import Derived.KernelRfl
set_option maxRecDepth 100000
namespace Go.Vc
abbrev af(d x:Nat):gz:=s1 d (.dk (tt x))
abbrev aw(d x:Nat):gz:=s1 d (.eK (tt x))
abbrev aB(d x:Nat):gz:=s1 d (.nilCheck (tt x))
abbrev az(d f x:Nat):gz:=s1 d (.fieldAddr f (tt x))
abbrev aV(d f x:Nat):gz:=s1 d (.extract f (tt x))
abbrev aZ(d n x y:Nat):gz:=s1 d (.indexAddr n (tt x) (tt y))
abbrev aT(d:Nat)(x:Int):gz:=s1 d (.dk (ki x))
abbrev stT(d n x y:Nat):gz:=s1 d (.store n (tt x) (tt y))
abbrev bL(d:Nat):gz:=s1 d (.dk (kb false))
abbrev pI(d:Nat):gz:=s1 d (.dk (kb true))
abbrev br(g:Nat)(w:Bool)(d x:Nat):gz:=sg g w d (.dk (tt x))
abbrev kW(g:Nat)(w:Bool)(d x:Nat):gz:=sg g w d (.eK (tt x))
abbrev rD(g:Nat)(w:Bool)(d f x:Nat):gz:=sg g w d (.fieldAddr f (tt x))
abbrev BJ(g:Nat)(w:Bool)(d x:Nat):gz:=sg g w d (.nilCheck (tt x))
abbrev qV(d x y:Nat):gz:=s1 d (.pick (tt x) (tt y) (kb false))
abbrev ot(d x y:Nat):gz:=s1 d (.pick (tt x) (kb true) (tt y))
abbrev pV(d n x:Nat):gz:=s1 d (.zQ n (tt x))
abbrev kX(f x:Nat):df:=.call f [tt x]
abbrev be(f x y:Nat):df:=.call f [tt x,tt y]
abbrev jf(f x y z:Nat):df:=.call f [tt x,tt y,tt z]
def Ny:S→List Uy
 | .ag ops aP=>[(aP,(ops.zipIdx.filter fun p=>p.1.1).map (·.2),[])]
 | .seq a b=>Ny a++Ny b
 | .cond _ a b=>Ny a++Ny b
 | .cJ _ b=>Ny b
 | .loop L b=>(L,[],[])::Ny b
 |_=>[]
def dq(P:Program)(f:Nat)(F:Fn):Option Fn:=gA P f (Ny F.body)
end Go.Vc
namespace Go.Proofs.YtjlnnljohemifaaGreat
open Go Go.Vc
theorem mixed:Tryz.prog.follows .mixedOrders=true:=Tryz.checked.mixed
theorem ba{f:Nat}{an:List Uy}{F:Vc.Fn}(d:gA Tryz.prog f an=some F){args:List Value}{H:Hp}{K:Value→Hp→Prop}(h:F.vc Tryz.prog args H K):ai Tryz.prog f args H K:=Sc mixed d h
abbrev wI:Nat:=4
abbrev BV:Nat:=14
abbrev wJ:Nat:=15
abbrev Kg:Nat:=16
abbrev Fj:Nat:=17
abbrev Gw:Nat:=18
abbrev Fk:Nat:=20
abbrev Fl:Nat:=22
abbrev IB:Nat:=24
abbrev IC:Nat:=25
abbrev ID:Nat:=51
abbrev Gx:Nat:=52
abbrev Qb:Nat:=53
abbrev Dw:Nat:=54
abbrev Dx:Nat:=55
abbrev Fm:Nat:=56
abbrev BW:Nat:=57
abbrev tV:Nat:=61
abbrev vG:Nat:=62
abbrev ny:Nat:=63
abbrev rE:Nat:=64
abbrev Kh:Nat:=65
abbrev yC:Nat:=66
abbrev wK:Nat:=67
abbrev Ah:Nat:=69
abbrev vH:Nat:=72
abbrev LI:Nat:=76
abbrev Ai:Nat:=77
abbrev Aj:Nat:=78
abbrev LJ:Nat:=95
abbrev JI:Nat:=96
abbrev jB:Nat:=97
abbrev BX:Nat:=98
abbrev gB:Nat:=102
abbrev BY:Nat:=103
abbrev Ak:Nat:=104
abbrev Gy:Nat:=109
abbrev Al:Nat:=110
abbrev Am:Nat:=111
abbrev An:Nat:=112
abbrev BZ:Nat:=113
abbrev yD:Nat:=128
abbrev Nz:Nat:=129
abbrev IE:Nat:=130
abbrev sQ:Nat:=131
abbrev Gz:Nat:=132
abbrev tW:Nat:=133
abbrev IF:Nat:=134
abbrev rS:Nat:=135
abbrev Fo:Nat:=136
abbrev tX:Nat:=137
abbrev IG:Nat:=138
abbrev yE:Nat:=139
abbrev NA:Nat:=140
abbrev yF:Nat:=141
abbrev NB:Nat:=142
abbrev Ao:Nat:=143
abbrev Dy:Nat:=156
abbrev Dz:Nat:=157
abbrev Ap:Nat:=158
abbrev wL:Nat:=165
abbrev NC:Nat:=166
abbrev LK:Nat:=167
abbrev ND:Nat:=168
abbrev B0:Nat:=169
abbrev LL:Nat:=170
abbrev Aq:Nat:=171
abbrev DA:Nat:=178
abbrev LM:Nat:=188
abbrev nA:Nat:=214
abbrev As:Nat:=215
abbrev bj:Nat:=216
abbrev o9:Nat:=217
abbrev bF:Nat:=218
abbrev jC:Nat:=219
abbrev pZ:Nat:=220
abbrev kY:Nat:=221
abbrev sR:Nat:=222
abbrev vi:Nat:=224
abbrev iz:Nat:=226
abbrev DB:Nat:=227
abbrev DC:Nat:=228
abbrev B1:Nat:=229
abbrev jD:Nat:=230
abbrev kZ:Nat:=231
abbrev GA:Nat:=232
abbrev dF:Nat:=233
abbrev IH:Nat:=234
abbrev Ki:Nat:=235
abbrev II:Nat:=236
abbrev yG:Nat:=237
abbrev Fp:Nat:=238
abbrev Fq:Nat:=239
abbrev IJ:Nat:=240
abbrev p7:Nat:=241
abbrev DD:Nat:=242
abbrev Kj:Nat:=243
abbrev cS:Nat:=244
abbrev jg:Nat:=245
abbrev kq:Nat:=247
abbrev k8:Nat:=248
abbrev nB:Nat:=249
abbrev pe:Nat:=251
abbrev yH:Nat:=252
abbrev wM:Nat:=253
abbrev gC:Nat:=254
abbrev wN:Nat:=255
abbrev yI:Nat:=256
abbrev yJ:Nat:=257
abbrev B3:Nat:=258
abbrev tY:Nat:=259
abbrev pg:Nat:=260
abbrev pJ:Nat:=261
abbrev k9:Nat:=262
abbrev wO:Nat:=263
abbrev nD:Nat:=264
abbrev Au:Nat:=265
abbrev wP:Nat:=266
abbrev yK:Nat:=267
abbrev Av:Nat:=268
abbrev lf:Nat:=269
abbrev qW:Nat:=270
abbrev vI:Nat:=271
abbrev yL:Nat:=272
abbrev yM:Nat:=273
abbrev kw:Nat:=274
abbrev vJ:Nat:=275
abbrev lh:Nat:=276
abbrev mw:Nat:=277
abbrev ph:Nat:=278
abbrev p8:Nat:=280
abbrev Aw:Nat:=281
abbrev yN:Nat:=282
abbrev yO:Nat:=283
abbrev yP:Nat:=284
abbrev iu:Nat:=285
abbrev jh:Nat:=287
abbrev kA:Nat:=288
abbrev my:Nat:=289
abbrev nE:Nat:=291
abbrev sS:Nat:=292
abbrev tZ:Nat:=293
abbrev DE:Nat:=294
abbrev B4:Nat:=295
abbrev vK:Nat:=296
abbrev vL:Nat:=297
abbrev wQ:Nat:=298
abbrev rT:Nat:=299
abbrev yQ:Nat:=300
abbrev DF:Nat:=301
abbrev uc:Nat:=302
abbrev B5:Nat:=303
abbrev kB:Nat:=304
abbrev vM:Nat:=305
abbrev li:Nat:=306
abbrev mz:Nat:=307
abbrev pj:Nat:=308
abbrev p9:Nat:=310
abbrev B6:Nat:=311
abbrev yR:Nat:=312
abbrev wR:Nat:=313
abbrev IK:Nat:=314
abbrev Ax:Nat:=315
abbrev yS:Nat:=316
abbrev DG:Nat:=317
abbrev Ay:Nat:=318
abbrev yT:Nat:=319
abbrev Kk:Nat:=320
abbrev B7:Nat:=321
abbrev vN:Nat:=322
abbrev Kl:Nat:=323
abbrev B8:Nat:=324
abbrev vO:Nat:=325
abbrev Az:Nat:=326
abbrev nF:Nat:=327
abbrev AA:Nat:=328
abbrev pk:Nat:=329
abbrev qd:Nat:=330
abbrev vj:Nat:=332
abbrev B9:Nat:=333
abbrev Ca:Nat:=334
abbrev Cb:Nat:=335
abbrev Cc:Nat:=336
abbrev nG:Nat:=337
abbrev AB:Nat:=338
abbrev pq:Nat:=339
abbrev qe:Nat:=340
abbrev sT:Nat:=341
abbrev vk:Nat:=343
abbrev wS:Nat:=344
abbrev sU:Nat:=345
abbrev vP:Nat:=346
abbrev vQ:Nat:=347
abbrev yU:Nat:=348
abbrev ju:Nat:=351
abbrev sV:Nat:=352
abbrev vl:Nat:=353
abbrev sW:Nat:=354
abbrev sX:Nat:=355
def gD:Vc.Fn:=⟨2,[(.tmp 4)],
 (.seq (.ag [s1 2 (.box 23 (tt 0)),bL 4] [1,2]) (.seq (.seq (.ag [s1 9 (.call 15 []),s1 10 (.un .not (tt 9))] [1,2,10]) (.cond (tt 10) (.seq (.ag [bL 4] [4]) .ret) .skip)) (.seq (.seq (.ag [af 11 1,s1 12 (.bu (tt 11)),s1 13 (.aD .gtr .int (tt 12) (ki 60)),af 14 13,br 14 true 15 1,sg 14 true 16 (.bu (tt 15)),sg 14 true 17 (.aD .leq .int (tt 16) (ki 4096)),qV 18 14 17] [1,2,18]) (.cond (tt 18) (.seq (.ag [pI 4] [4]) .ret) .skip)) (.seq (.ag [pV 20 2 2,af 21 1,s1 22 (be 14 20 21),af 19 22,aV 23 0 19,aV 24 1 19,af 5 23,af 6 24] [1,2,5,6]) (.seq (.ag [pV 26 2 2,af 27 1,s1 28 (be 17 26 27),af 25 28,aV 29 0 25,aV 30 1 25,af 7 29,af 8 30] [5,6,7,8]) (.seq (.ag [af 31 6,af 32 8,s1 33 (.aD .eql .int (tt 31) (tt 32)),af 34 33,br 34 true 35 5,br 34 true 36 7,sg 34 true 37 (be 16 35 36),qV 38 34 37,af 4 38] [4]) .ret))))))⟩
theorem wT:dq Tryz.prog 4 gD=some gD:=by kernel_rfl
def lj:Vc.Fn:=⟨2,[(.tmp 4),(.tmp 5)],
 (.seq (.ag [s1 2 (.box 23 (tt 0)),s1 4 (.dk (.const (.slice none 0 0))),aT 5 0] [1,2]) (.seq (.seq (.ag [pV 13 2 2,s1 14 (kX 51 13),af 6 14] [1,2,6]) (.seq (.ag [af 15 6,s1 16 (.aD .neq .int (tt 15) (ki 0))] [1,2,6,16]) (.cond (tt 16) (.seq (.ag [af 17 6,s1 4 (.dk (.const (.slice none 0 0))),af 5 17] [4,5]) .ret) .skip))) (.seq (.seq (.ag [af 18 1,s1 19 (kX 52 18),s1 20 (.un .not (tt 19))] [1,2,20]) (.cond (tt 20) (.seq (.ag [s1 4 (.dk (.const (.slice none 0 0))),aT 5 201] [4,5]) .ret) .skip)) (.seq (.ag [af 21 1,s1 22 (.bu (tt 21)),af 7 22] [1,2,7]) (.seq (.seq (.ag [af 23 7,s1 24 (.aD .eql .int (tt 23) (ki 1))] [1,2,7,24]) (.cond (tt 24) (.seq (.ag [s1 25 (.lit 3 1 [(.int .i64 0)] [(0,(1,(ki 1)))]),af 4 25,aT 5 0] [4,5]) .ret) .skip)) (.seq (.ag [pV 27 2 2,af 28 7,s1 29 (.call 53 [(tt 27),(tt 28),(.const (.int .u32 4294967295))]),af 26 29,aV 30 0 26,aV 31 1 26,af 8 30,af 9 31] [1,7,8,9]) (.seq (.seq (.ag [af 32 9,s1 33 (.aD .neq .int (tt 32) (ki 0))] [1,7,8,9,33]) (.cond (tt 33) (.seq (.ag [af 34 9,s1 4 (.dk (.const (.slice none 0 0))),af 5 34] [4,5]) .ret) .skip)) (.seq (.ag [af 35 8,af 36 1,s1 37 (be 54 35 36),af 10 37] [7,10]) (.seq (.ag [af 38 10,s1 39 (.bu (tt 38)),s1 40 (.makeSlice 3 8 1 [(.int .i64 0)] (tt 39) (tt 39)),af 11 40] [7,10,11]) (.seq (.seq (.ag [af 41 10,s1 42 (.bu (tt 41)),s1 43 (.aD .sub .int (tt 42) (ki 2)),af 12 43] [7,10,11,12]) (.cJ 0 (.loop [7,10,11,12] (.seq (.seq (.ag [af 44 12,s1 45 (.aD .geq .int (tt 44) (ki 0))] [7,10,11,12,45]) (.cond (tt 45) .skip (.exit 0))) (.seq (.cJ 1 (.ag [af 48 11,af 49 12,af 50 11,af 51 10,af 52 12,aZ 53 1 51 52,aw 54 53,aZ 55 1 50 54,aw 56 55,s1 57 (.aD .add .int (tt 56) (ki 1)),aZ 58 1 48 49,s0 (.store 1 (tt 58) (tt 57))] [7,10,11,12])) (.ag [af 46 12,s1 47 (.aD .sub .int (tt 46) (ki 1)),af 12 47] [7,10,11,12])))))) (.seq (.ag [af 59 11,af 60 7,af 61 7,s1 62 (.slice 1 (tt 59) none (some (tt 60)) (some (tt 61))),af 4 62,aT 5 0] [4,5]) .ret)))))))))))⟩
theorem Cd:dq Tryz.prog 14 lj=some lj:=by kernel_rfl
def gE:Vc.Fn:=⟨0,[(.tmp 0)],
 (.seq (.ag [bL 0] []) (.seq (.ag [s1 4 (.build [(.int .i64 0),(.int .i64 0)] [(0,(1,(ki 5)))]),s1 5 (.lit 2 3 [(.int .i64 0),(.int .i64 0),(.int .i64 0)] [(0,(1,(ki 1))),(1,(1,(ki 1))),(2,(1,(ki 2)))]),s1 6 (be 14 4 5),af 3 6,aV 7 0 3,aV 8 1 3,af 1 7,af 2 8] [1,2]) (.seq (.ag [af 9 2,s1 10 (.aD .eql .int (tt 9) (ki 0)),af 11 10,br 11 true 12 1,sg 11 true 13 (.lit 3 3 [(.int .i64 0),(.int .i64 0),(.int .i64 0)] [(0,(1,(ki 2))),(1,(1,(ki 2))),(2,(1,(ki 1)))]),sg 11 true 14 (be 16 12 13),qV 15 11 14,af 16 15,br 16 true 17 1,sg 16 true 18 (kX 20 17),sg 16 true 19 (.aD .eql .int (tt 18) (ki 0)),qV 20 16 19,af 21 20,sg 21 true 22 (.lit 2 3 [(.int .i64 0),(.int .i64 0),(.int .i64 0)] [(0,(1,(ki 1))),(1,(1,(ki 1))),(2,(1,(ki 2)))]),br 21 true 23 1,sg 21 true 24 (be 22 22 23),qV 25 21 24,af 0 25] [0]) .ret)))⟩
theorem wU:dq Tryz.prog 15 gE=some gE:=by kernel_rfl
def ud:Vc.Fn:=⟨2,[(.tmp 4)],
 (.seq (.ag [bL 4] [0,1]) (.seq (.seq (.ag [af 6 0,s1 7 (.bu (tt 6)),af 8 1,s1 9 (.bu (tt 8)),s1 10 (.aD .neq .int (tt 7) (tt 9))] [0,1,10]) (.cond (tt 10) (.seq (.ag [bL 4] [4]) .ret) .skip)) (.seq (.seq (.ag [af 11 0,s1 12 (.bu (tt 11)),aT 13 0] [0,1,12,13]) (.cJ 0 (.loop [0,1,12,13] (.seq (.ag [s1 14 (.aD .lss .int (tt 13) (tt 12))] [0,1,12,13,14]) (.seq (.cond (tt 14) .skip (.exit 0)) (.seq (.cJ 1 (.seq (.ag [af 15 13,af 5 15] [0,1,5,12,13]) (.seq (.ag [af 16 0,af 17 5,aZ 18 1 16 17,aw 19 18,af 20 1,af 21 5,aZ 22 1 20 21,aw 23 22,s1 24 (.aD .neq .int (tt 19) (tt 23))] [0,1,12,13,24]) (.cond (tt 24) (.seq (.ag [bL 4] [4]) .ret) .skip)))) (.ag [s1 25 (.aD .add .int (tt 13) (ki 1)),af 13 25] [0,1,12,13]))))))) (.seq (.ag [pI 4] [4]) .ret))))⟩
theorem Km:dq Tryz.prog 16 ud=some ud:=by kernel_rfl
def vm:Vc.Fn:=⟨2,[(.tmp 4),(.tmp 5)],
 (.seq (.ag [s1 2 (.box 23 (tt 0)),s1 4 (.dk (.const (.slice none 0 0))),aT 5 0] [1,2]) (.seq (.seq (.ag [pV 18 2 2,s1 19 (kX 24 18),af 6 19] [1,6]) (.seq (.ag [af 20 6,s1 21 (.aD .neq .int (tt 20) (ki 0))] [1,6,21]) (.cond (tt 21) (.seq (.ag [af 22 6,s1 4 (.dk (.const (.slice none 0 0))),af 5 22] [4,5]) .ret) .skip))) (.seq (.seq (.ag [af 23 1,s1 24 (kX 25 23),s1 25 (.un .not (tt 24))] [1,25]) (.cond (tt 25) (.seq (.ag [s1 4 (.dk (.const (.slice none 0 0))),aT 5 201] [4,5]) .ret) .skip)) (.seq (.seq (.ag [af 26 1,s1 27 (.bu (tt 26)),s1 28 (.aD .eql .int (tt 27) (ki 1))] [1,28]) (.cond (tt 28) (.seq (.ag [s1 29 (.lit 3 1 [(.int .i64 0)] [(0,(1,(ki 1)))]),af 4 29,aT 5 0] [4,5]) .ret) .skip)) (.seq (.ag [af 30 1,s1 31 (.bu (tt 30)),s1 32 (.makeSlice 3 8 1 [(.int .i64 0)] (tt 31) (tt 31)),af 7 32] [1,7]) (.seq (.ag [s1 33 (.lit 88 0 [] []),af 8 33] [1,7,8]) (.seq (.seq (.ag [af 34 1,s1 35 (.bu (tt 34)),aT 36 0] [7,8,34,35,36]) (.cJ 0 (.loop [7,8,34,35,36] (.seq (.ag [s1 37 (.aD .lss .int (tt 36) (tt 35))] [7,8,34,35,36,37]) (.seq (.cond (tt 37) .skip (.exit 0)) (.seq (.cJ 1 (.seq (.ag [af 38 36,aZ 39 1 34 36,aw 40 39,af 9 38,af 10 40] [7,8,9,10,34,35,36]) (.ag [af 41 8,af 42 10,af 43 9,s1 44 (.lit 3 1 [(.int .i64 0)] [(0,(1,(tt 43)))]),s1 45 (.build [(.int .i64 0),(.slice none 0 0)] [(0,(1,(tt 42))),(1,(1,(tt 44)))]),s1 46 (.lit 88 1 [(.int .i64 0),(.slice none 0 0)] [(0,(2,(tt 45)))]),s1 47 (.append 88 2 32 [(.int .i64 0),(.slice none 0 0)] (tt 41) (tt 46)),af 8 47] [7,8,34,35,36]))) (.ag [s1 48 (.aD .add .int (tt 36) (ki 1)),af 36 48] [7,8,34,35,36]))))))) (.seq (.cJ 2 (.loop [7,8] (.seq (.seq (.ag [af 49 8,s1 50 (.bu (tt 49)),s1 51 (.aD .gtr .int (tt 50) (ki 1))] [7,8,51]) (.cond (tt 51) .skip (.exit 2))) (.cJ 3 (.seq (.ag [af 52 8,s1 53 (kX 55 52),af 11 53] [7,8,11]) (.seq (.ag [af 54 8,af 55 11,aZ 56 2 54 55,pV 57 2 56,s1 12 (.zero 88 [(.int .i64 0),(.slice none 0 0)]),s0 (.store 2 (tt 12) (tt 57))] [7,8,11,12]) (.seq (.ag [af 58 8,af 59 11,s1 60 (be 56 58 59),af 8 60] [7,8,12]) (.seq (.ag [af 61 8,s1 62 (kX 55 61),af 13 62] [7,8,12,13]) (.seq (.ag [af 63 8,af 64 13,aZ 65 2 63 64,pV 66 2 65,s1 14 (.zero 88 [(.int .i64 0),(.slice none 0 0)]),s0 (.store 2 (tt 14) (tt 66))] [7,8,12,13,14]) (.seq (.ag [af 67 8,af 68 13,s1 69 (be 56 67 68),af 8 69] [7,8,12,14]) (WM (.qX (.aY (az 70 0 12) (.Fs (sq 71 (.eK (tt 70))) (.aY (az 72 0 14) (.Fs (sq 73 (.eK (tt 72))) (.aY (s1 74 (.aD .add .int (tt 71) (tt 73))) (.aY (az 76 1 12) (.Fs (sq 77 (.eK (tt 76))) (.aY (az 79 1 14) (.Fs (sq 80 (.eK (tt 79))) (.aJ (s1 75 (.lit 3 0 [] [])) (.aJ (s1 78 (.append 3 1 8 [(.int .i64 0)] (tt 75) (tt 77))) (.aJ (s1 81 (.append 3 1 8 [(.int .i64 0)] (tt 78) (tt 80))) (.aY (s1 82 (.build [(.int .i64 0),(.slice none 0 0)] [(0,(1,(tt 74))),(1,(1,(tt 81)))])) (.aJ (s1 15 (.zero 88 [(.int .i64 0),(.slice none 0 0)])) (.aJ (s0 (.store 2 (tt 15) (tt 82))) .done .stop) .stop)) (.aJ (s1 15 (.zero 88 [(.int .i64 0),(.slice none 0 0)])) (.aJ (s1 81 (.append 3 1 8 [(.int .i64 0)] (tt 78) (tt 80))) (.aY (s1 82 (.build [(.int .i64 0),(.slice none 0 0)] [(0,(1,(tt 74))),(1,(1,(tt 81)))])) (.aJ (s0 (.store 2 (tt 15) (tt 82))) .done .stop)) .stop) .stop)) (.aJ (s1 15 (.zero 88 [(.int .i64 0),(.slice none 0 0)])) (.aJ (s1 78 (.append 3 1 8 [(.int .i64 0)] (tt 75) (tt 77))) (.aJ (s1 81 (.append 3 1 8 [(.int .i64 0)] (tt 78) (tt 80))) (.aY (s1 82 (.build [(.int .i64 0),(.slice none 0 0)] [(0,(1,(tt 74))),(1,(1,(tt 81)))])) (.aJ (s0 (.store 2 (tt 15) (tt 82))) .done .stop)) .stop) .stop) .stop)) (.aJ (s1 15 (.zero 88 [(.int .i64 0),(.slice none 0 0)])) (.aJ (s1 75 (.lit 3 0 [] [])) (.aJ (s1 78 (.append 3 1 8 [(.int .i64 0)] (tt 75) (tt 77))) (.aJ (s1 81 (.append 3 1 8 [(.int .i64 0)] (tt 78) (tt 80))) (.aY (s1 82 (.build [(.int .i64 0),(.slice none 0 0)] [(0,(1,(tt 74))),(1,(1,(tt 81)))])) (.aJ (s0 (.store 2 (tt 15) (tt 82))) .done .stop)) .stop) .stop) .stop) .stop))))))))))) [7,8,15]) (.seq (.seq (.ag [az 83 1 15,aw 84 83,s1 85 (.bu (tt 84)),aT 86 0] [7,8,15,84,85,86]) (.cJ 4 (.loop [7,8,15,84,85,86] (.seq (.ag [s1 87 (.aD .lss .int (tt 86) (tt 85))] [7,8,15,84,85,86,87]) (.seq (.cond (tt 87) .skip (.exit 4)) (.seq (.cJ 5 (.seq (.ag [aZ 88 1 84 86,aw 89 88,af 17 89] [7,8,15,17,84,85,86]) (.ag [af 90 7,af 91 17,aZ 92 1 90 91,aw 93 92,s1 94 (.aD .add .int (tt 93) (ki 1)),aZ 95 1 90 91,s0 (.store 1 (tt 95) (tt 94))] [7,8,15,84,85,86]))) (.ag [s1 96 (.aD .add .int (tt 86) (ki 1)),af 86 96] [7,8,15,84,85,86]))))))) (.ag [af 97 8,pV 98 2 15,s1 99 (.lit 88 1 [(.int .i64 0),(.slice none 0 0)] [(0,(2,(tt 98)))]),s1 100 (.append 88 2 32 [(.int .i64 0),(.slice none 0 0)] (tt 97) (tt 99)),af 8 100] [7,8]))))))))))))) (.seq (.ag [af 101 7,af 4 101,aT 5 0] [4,5]) .ret)))))))))⟩
theorem Ft:gA Tryz.prog 17 [([1,2],[],[]),([1,6],[],[]),([1,6,21],[],[]),([4,5],[],[]),([1,25],[],[]),([4,5],[],[]),([1,28],[],[]),([4,5],[],[]),([1,7],[],[]),([1,7,8],[],[]),([7,8,34,35,36],[],[]),([7,8,34,35,36],[],[]),([7,8,34,35,36,37],[],[]),([7,8,9,10,34,35,36],[],[]),([7,8,34,35,36],[],[]),([7,8,34,35,36],[],[]),([7,8],[],[]),([7,8,51],[],[]),([7,8,11],[],[]),([7,8,11,12],[],[]),([7,8,12],[],[]),([7,8,12,13],[],[]),([7,8,12,13,14],[],[]),([7,8,12,14],[],[]),([7,8,15],[1,3,7,10],[1,0,1,1,1,2,1,3,1,4,1,6,1,7,1,9,1,10,2,5,2,8,2,11,1,12,2,13,2,14,0,3,3,2,13,2,11,1,12,2,14,0,3,3,3,2,13,2,8,2,11,1,12,2,14,0,3,3,3,3,2,13,2,5,2,8,2,11,1,12,2,14,0,3,3,3,3,3]),([7,8,15,84,85,86],[],[]),([7,8,15,84,85,86],[],[]),([7,8,15,84,85,86,87],[],[]),([7,8,15,17,84,85,86],[],[]),([7,8,15,84,85,86],[],[]),([7,8,15,84,85,86],[],[]),([7,8],[],[]),([4,5],[],[])]=some vm:=by kernel_rfl
def qf:Vc.Fn:=⟨2,[(.agg 4 2),(.tmp 5)],
 (.seq (.ag [s1 4 (.zero 36 [(.int .i64 0),(.int .u64 0)]),bL 5] [0,1,4]) (.seq (.seq (.ag [af 13 0,s1 14 (.bu (tt 13)),af 15 1,s1 16 (.bu (tt 15)),s1 17 (.aD .neq .int (tt 14) (tt 16)),af 18 17,br 18 false 19 0,sg 18 false 20 (.bu (tt 19)),sg 18 false 21 (.aD .gtr .int (tt 20) (ki 4096)),ot 22 18 21] [0,1,4,22]) (.cond (tt 22) (.seq (.ag [s1 23 (.build [(.int .i64 0),(.int .u64 0)] []),s0 (.store 2 (tt 4) (tt 23)),bL 5] [4,5]) .ret) .skip)) (.seq (.ag [s1 6 (.zero 36 [(.int .i64 0),(.int .u64 0)])] [0,1,4,6]) (.seq (.seq (.ag [af 24 0,s1 25 (.bu (tt 24)),aT 26 0] [1,4,6,24,25,26]) (.cJ 0 (.loop [1,4,6,24,25,26] (.seq (.ag [s1 27 (.aD .lss .int (tt 26) (tt 25))] [1,4,6,24,25,26,27]) (.seq (.cond (tt 27) .skip (.exit 0)) (.seq (.cJ 1 (.seq (.ag [af 28 26,aZ 29 1 24 26,aw 30 29,af 7 28,af 8 30] [1,4,6,7,8,24,25,26]) (.seq (.seq (.ag [af 31 8,s1 32 (.aD .lss .int (tt 31) (ki 1)),af 33 32,br 33 false 34 1,br 33 false 35 7,sg 33 false 36 (.indexAddr 1 (tt 34) (tt 35)),kW 33 false 37 36,sg 33 false 38 (.aD .lss .int (tt 37) (ki 0)),ot 39 33 38,af 40 39,br 40 false 41 1,br 40 false 42 7,sg 40 false 43 (.indexAddr 1 (tt 41) (tt 42)),kW 40 false 44 43,sg 40 false 45 (.aD .gtr .int (tt 44) (ki 4096)),ot 46 40 45] [1,4,6,7,8,24,25,26,46]) (.cond (tt 46) (.seq (.ag [s1 47 (.build [(.int .i64 0),(.int .u64 0)] []),s0 (.store 2 (tt 4) (tt 47)),bL 5] [4,5]) .ret) .skip)) (.seq (.ag [af 49 8,s1 50 (.conv .u64 (tt 49)),af 51 1,af 52 7,aZ 53 1 51 52,aw 54 53,s1 55 (.conv .u64 (tt 54)),s1 56 (be 57 50 55),af 48 56,aV 57 0 48,aV 58 1 48,af 9 57,af 10 58] [1,4,6,9,10,24,25,26]) (.seq (.ag [az 60 1 6,aw 61 60,af 62 10,s1 63 (.ext 58 [(tt 61),(tt 62),(.const (.int .u64 0))]),af 59 63,aV 64 0 59,aV 65 1 59,af 11 64,af 12 65] [1,4,6,9,11,12,24,25,26]) (.ag [az 66 0 6,aw 67 66,af 68 9,af 69 12,s1 70 (.aD .add .int (tt 68) (tt 69)),s1 71 (.conv .i64 (tt 70)),s1 72 (.aD .add .int (tt 67) (tt 71)),af 73 11,s1 74 (.build [(.int .i64 0),(.int .u64 0)] [(0,(1,(tt 72))),(1,(1,(tt 73)))]),s0 (.store 2 (tt 6) (tt 74))] [1,4,6,24,25,26])))))) (.ag [s1 75 (.aD .add .int (tt 26) (ki 1)),af 26 75] [1,4,6,24,25,26]))))))) (.seq (.ag [pV 76 2 6,s0 (.store 2 (tt 4) (tt 76)),pI 5] [4,5]) .ret)))))⟩
theorem GB:dq Tryz.prog 18 qf=some qf:=by kernel_rfl
def ou:Vc.Fn:=⟨1,[(.tmp 2)],
 (.seq (.ag [aT 2 0] [0]) (.seq (.ag [af 9 0,s1 10 (kX 61 9),af 3 10] [3]) (.seq (.seq (.ag [af 11 3,s1 12 (.bu (tt 11)),aT 13 0] [3,12,13]) (.cJ 0 (.loop [3,12,13] (.seq (.ag [s1 14 (.aD .lss .int (tt 13) (tt 12))] [3,12,13,14]) (.seq (.cond (tt 14) .skip (.exit 0)) (.seq (.cJ 1 (.seq (.ag [af 15 13,af 4 15] [3,4,12,13]) (.ag [af 16 3,af 17 4,af 18 3,af 19 4,aZ 20 1 18 19,aw 21 20,s1 22 (.Qc [(tt 21),(ki 1)]),aZ 23 1 16 17,s0 (.store 1 (tt 23) (tt 22))] [3,12,13]))) (.ag [s1 24 (.aD .add .int (tt 13) (ki 1)),af 13 24] [3,12,13]))))))) (.seq (.ag [af 25 3,s1 26 (kX 62 25)] [3]) (.seq (.ag [aT 5 1,aT 6 0] [3,5,6]) (.seq (.seq (.ag [af 27 3,s1 28 (.bu (tt 27)),aT 29 0] [3,5,6,27,28,29]) (.cJ 2 (.loop [3,5,6,27,28,29] (.seq (.ag [s1 30 (.aD .lss .int (tt 29) (tt 28))] [3,5,6,27,28,29,30]) (.seq (.cond (tt 30) .skip (.exit 2)) (.seq (.cJ 3 (.seq (.ag [aZ 31 1 27 29,aw 32 31,af 8 32] [3,5,6,8,27,28,29]) (.seq (.cJ 4 (.loop [3,5,6,8,27,28,29] (.seq (.seq (.ag [af 33 6,af 34 8,s1 35 (.aD .lss .int (tt 33) (tt 34)),af 36 35,br 36 true 37 5,sg 36 true 38 (.aD .gtr .int (tt 37) (ki 0)),qV 39 36 38,af 40 39,br 40 true 41 5,br 40 true 42 3,sg 40 true 43 (.bu (tt 42)),sg 40 true 44 (.aD .leq .int (tt 41) (tt 43)),qV 45 40 44] [3,5,6,8,27,28,29,45]) (.cond (tt 45) .skip (.exit 4))) (.seq (.cJ 5 (.ag [af 48 5,s1 49 (.aD .mul .int (tt 48) (ki 2)),af 5 49] [3,5,6,8,27,28,29])) (.ag [af 46 6,s1 47 (.aD .add .int (tt 46) (ki 1)),af 6 47] [3,5,6,8,27,28,29]))))) (.seq (.ag [af 50 8,af 6 50] [3,5,6,27,28,29]) (.seq (.seq (.ag [af 51 5,s1 52 (.aD .eql .int (tt 51) (ki 0))] [3,5,6,27,28,29,52]) (.cond (tt 52) (.seq (.ag [aT 2 1] [2]) .ret) .skip)) (.ag [af 53 5,s1 54 (.aD .sub .int (tt 53) (ki 1)),af 5 54] [3,5,6,27,28,29])))))) (.ag [s1 55 (.aD .add .int (tt 29) (ki 1)),af 29 55] [3,5,6,27,28,29]))))))) (.seq (.seq (.ag [af 56 5,s1 57 (.aD .eql .int (tt 56) (ki 0))] [57]) (.cond (tt 57) (.seq (.ag [aT 2 0] [2]) .ret) .skip)) (.seq (.ag [s1 2 (.dk (ki (-1)))] [2]) .ret))))))))⟩
theorem Fu:dq Tryz.prog 20 ou=some ou:=by kernel_rfl
def oA:Vc.Fn:=⟨2,[(.tmp 4)],
 (.seq (.ag [bL 4] [0,1]) (.seq (.seq (.ag [af 11 0,s1 12 (kX 52 11),s1 13 (.un .not (tt 12)),af 14 13,br 14 false 15 0,sg 14 false 16 (.bu (tt 15)),br 14 false 17 1,sg 14 false 18 (.bu (tt 17)),sg 14 false 19 (.aD .neq .int (tt 16) (tt 18)),ot 20 14 19,af 21 20,br 21 false 22 1,sg 21 false 23 (.call 63 [(tt 22),(.func 64)]),ot 24 21 23,af 25 24,br 25 false 26 1,sg 25 false 27 (kX 20 26),sg 25 false 28 (.aD .gtr .int (tt 27) (ki 0)),ot 29 25 28] [0,1,29]) (.cond (tt 29) (.seq (.ag [bL 4] [4]) .ret) .skip)) (.seq (.ag [s1 31 (.build [(.int .i64 0),(.int .i64 0)] [(0,(1,(ki 1)))]),af 32 0,s1 33 (be 14 31 32),af 30 33,aV 34 0 30,aV 35 1 30,af 5 34,af 6 35] [0,1,5,6]) (.seq (.ag [af 37 0,af 38 1,s1 39 (be 18 37 38),af 36 39,aV 40 0 36,aV 41 1 36,s1 7 (.zero 36 [(.int .i64 0),(.int .u64 0)]),s0 (.store 2 (tt 7) (tt 40)),af 8 41] [0,5,6,7,8]) (.seq (.ag [af 43 0,af 44 5,s1 45 (be 18 43 44),af 42 45,aV 46 0 42,aV 47 1 42,s1 9 (.zero 36 [(.int .i64 0),(.int .u64 0)]),s0 (.store 2 (tt 9) (tt 46)),af 10 47] [6,7,8,9,10]) (.seq (.ag [af 48 6,s1 49 (.aD .eql .int (tt 48) (ki 0)),af 50 49,br 50 true 51 8,qV 52 50 51,af 53 52,br 53 true 54 10,qV 55 53 54,af 56 55,sg 56 true 57 (.zQ 2 (tt 7)),sg 56 true 58 (.zQ 2 (tt 9)),sg 56 true 59 (.aD .eql (.s [(0,(none,.int)),(1,(none,.int))]) (tt 57) (tt 58)),qV 60 56 59,af 4 60] [4]) .ret))))))⟩
theorem Fv:dq Tryz.prog 22 oA=some oA:=by kernel_rfl
def rU:Vc.Fn:=⟨1,[(.tmp 2)],
 (.seq (.ag [s1 1 (.box 23 (tt 0)),aT 2 0] [1]) (.seq (.seq (.ag [az 3 0 1,aw 4 3,s1 5 (.aD .lss .int (tt 4) (ki 1)),af 6 5,rD 6 false 7 0 1,kW 6 false 8 7,sg 6 false 9 (.aD .gtr .int (tt 8) (ki 8)),ot 10 6 9] [1,10]) (.cond (tt 10) (.seq (.ag [aT 2 21] [2]) .ret) .skip)) (.seq (.seq (.ag [az 11 0 1,aw 12 11,s1 13 (.aD .eql .int (tt 12) (ki 2)),af 14 13,rD 14 true 15 1 1,kW 14 true 16 15,sg 14 true 17 (.aD .geq .int (tt 16) (ki 2)),qV 18 14 17,af 19 18,rD 19 true 20 1 1,kW 19 true 21 20,sg 19 true 22 (.aD .leq .int (tt 21) (ki 16)),qV 23 19 22,af 24 23,rD 24 false 25 0 1,kW 24 false 26 25,sg 24 false 27 (.aD .neq .int (tt 26) (ki 2)),br 24 false 28 27,rD 28 true 29 1 1,kW 28 true 30 29,sg 28 true 31 (.aD .eql .int (tt 30) (ki 0)),sg 24 false 32 (.pick (tt 28) (tt 31) (kb false)),ot 33 24 32] [33]) (.cond (tt 33) (.seq (.ag [aT 2 0] [2]) .ret) .skip)) (.seq (.ag [aT 2 22] [2]) .ret))))⟩
theorem IL:dq Tryz.prog 24 rU=some rU:=by kernel_rfl
def rV:Vc.Fn:=⟨1,[(.tmp 2)],
 (.seq (.ag [bL 2] [0]) (.seq (.ag [aT 3 9223372036854775807] [0,3]) (.seq (.seq (.ag [af 6 0,s1 7 (.bu (tt 6)),aT 8 0] [0,3,6,7,8]) (.cJ 0 (.loop [0,3,6,7,8] (.seq (.ag [s1 9 (.aD .lss .int (tt 8) (tt 7))] [0,3,6,7,8,9]) (.seq (.cond (tt 9) .skip (.exit 0)) (.seq (.cJ 1 (.seq (.ag [aZ 10 1 6 8,aw 11 10,af 5 11] [0,3,5,6,7,8]) (.seq (.seq (.ag [af 12 5,s1 13 (.aD .lss .int (tt 12) (ki 1)),af 14 13,br 14 false 15 5,br 14 false 16 3,sg 14 false 17 (.aD .gtr .int (tt 15) (tt 16)),ot 18 14 17] [0,3,5,6,7,8,18]) (.cond (tt 18) (.seq (.ag [bL 2] [2]) .ret) .skip)) (.ag [af 19 3,af 20 5,s1 21 (.aD .sub .int (tt 19) (tt 20)),af 3 21] [0,3,6,7,8])))) (.ag [s1 22 (.aD .add .int (tt 8) (ki 1)),af 8 22] [0,3,6,7,8]))))))) (.seq (.ag [af 23 0,s1 24 (.bu (tt 23)),s1 25 (.aD .geq .int (tt 24) (ki 1)),af 26 25,br 26 true 27 0,sg 26 true 28 (.bu (tt 27)),sg 26 true 29 (.aD .leq .int (tt 28) (ki 4096)),qV 30 26 29,af 2 30] [2]) .ret))))⟩
theorem IM:dq Tryz.prog 25 rV=some rV:=by kernel_rfl
end Go.Proofs.YtjlnnljohemifaaGreat
